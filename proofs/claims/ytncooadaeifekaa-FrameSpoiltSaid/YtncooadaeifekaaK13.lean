/- Helpers for the walks: 'copy' of as many bytes as there is room for; a pattern put into bytes, step by step. No condition but what each states. -/
import Derived.Test.YtncooadaeifekaaK4
import Derived.Test.YtncooadaeifekaaK6
import Derived.Test.YtncooadaeifekaaM4
namespace Go.Proofs.Ytncooadaeifekaa
open Go.RowKit
/-- what stands in a row behind 'copy' -/
def laid (l p : List Nat) : List Nat := p.take l.length ++ l.drop (p.take l.length).length
theorem laid_length (l p : List Nat) : (laid l p).length = l.length := by simp [laid]; omega
theorem laid_lt (l p : List Nat) (hl : ∀ c ∈ l, c < 256) (hp : ∀ c ∈ p, c < 256) : ∀ c ∈ laid l p, c < 256 := fun c hc => by
  rcases List.mem_append.1 hc with h | h
  · exact hp c (List.mem_of_mem_take h)
  · exact hl c (List.mem_of_mem_drop h)
theorem wpList_copy_row {ops : Array Oper} {rest : List Oper} {o : Oper} {a : Act} {w : World} {Q : Exit → Act → World → Prop} (hgd : o.guard = none) (d : Option Tmp) (hdst : o.dst = d) (x y : Operand)
    (ho : o.op = .call { callee := .builtin .copy, args := #[x, y], argTypes := #[28, 28] }) (N n cd : Nat) (l : List Nat) (hn : l.length = n) (hx : a.eval x = .slice (some ⟨N, 0, none⟩) n cd) (hg : RowB w N l)
    (ad : Option Addr) (p : List Nat) (cs : Nat) (hy : a.eval y = .slice ad p.length cs) (hp : HasB w ad p)
    (h : ∀ (W : World) (k : Nat), RowB W N (laid l p) → Below N w W → wpList Try.prog ops Q rest (a.put d (.int .i64 k)) W) : wpList Try.prog ops Q (o :: rest) a w := by
  subst hdst hn
  have hl1 : (p.take l.length).length = Nat.min p.length l.length := by simp [Nat.min_comm]
  refine wpList_copy_splice hgd x y 28 28 ho 5 Try.underlying28 (by kernel_rfl) _ _ _ _ _ _ hx hy N 0 (u8s l) 5 hg (u8s (p.take l.length)) (by rw [u8s_length]; exact hl1) (fun hpos => ⟨rfl, ?_⟩) (by rw [u8s_length, u8s_length, hl1]; simp; exact Nat.min_le_right _ _) (u8s_one _) N w (Below.refl _ _) (Nat.le_refl _) ?_
  · have h0 : 0 < p.length := by rw [u8s_length, List.length_take] at hpos; omega
    obtain ⟨b, off, rfl, hcell⟩ := hp.cell h0
    refine ⟨_, rfl, fun j v hj => ?_⟩
    have hjl : j < (p.take l.length).length := by have := (List.getElem?_eq_some_iff.1 hj).1; simpa [u8s] using this
    have hadd : (⟨b, off, none⟩ : Addr).add j = ⟨b, off + j, none⟩ := by unfold Addr.add; split <;> simp_all
    have hj2 : j < p.length ∧ j < l.length := by simp at hjl; omega
    rw [hadd, hcell j hj2.1, ← hj, u8s_at _ j hjl]
    simp [nth, hj2.2]
  · intro W hW hb
    refine h W _ ?_ hb
    show W.heap[N]? = _
    rw [hW.out]
    congr 2
    simp [splice, laid, u8s, List.map_take, List.map_drop]
theorem nth_xorL (a b : List Nat) (h : a.length = b.length) (i : Nat) (hi : i < a.length) : nth (M.xorL a b) i = nth a i ^^^ nth b i := by
  unfold nth M.xorL
  rw [List.getD, List.getElem?_eq_getElem (show i < (List.zipWith (· ^^^ ·) a b).length by simp; omega), Option.getD_some, List.getElem_zipWith]
  simp [List.getD, hi, show i < b.length by omega]
theorem set_over (t p : List Nat) (m : Nat) (hl : t.length = p.length) (hm : m < p.length) : (p.take m ++ t.drop m).set m (nth p m) = p.take (m + 1) ++ t.drop (m + 1) := by
  have h1 : (p.take m).length = m := by simp; omega
  rw [List.set_append_right _ _ (by omega), h1, Nat.sub_self, List.drop_eq_getElem_cons (by omega : m < t.length), List.set_cons_zero, take_nth p m hm, List.append_assoc]
  rfl
theorem nth_over (t p : List Nat) (m : Nat) (hm : m < p.length) : nth (p.take m ++ t.drop m) m = nth t m := by
  have h1 : (p.take m).length = m := by simp; omega
  unfold nth
  simp [List.getElem?_append, h1]
end Go.Proofs.Ytncooadaeifekaa
