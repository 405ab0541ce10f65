/- Plain laws: entries and their bodies. No program in sight. -/
import Derived.Test.YtncooadaeifekaaM4
namespace Go.Proofs.Ytncooadaeifekaa.M
structure En where
  kind : Int
  first : Int
  count : Int
  block : Int
  many : Int
  mate : Int
  bytes : List Nat
deriving DecidableEq
def En.ok (e : En) : Prop := e.bytes.length = 32 ∧ ∀ c ∈ e.bytes, c < 256
def En.zero : En := ⟨0, 0, 0, 0, 0, 0, List.replicate 32 0⟩
def En.counts (e : En) : Bool :=
  if e.kind = 1 then decide ((1 ≤ e.count ∧ e.count ≤ 4) ∧ e.many = 0)
  else if e.kind = 2 then decide (e.count = 1 ∧ (1 ≤ e.many ∧ e.many ≤ 256 - e.block) ∧ e.bytes = List.replicate 32 0)
  else if e.kind = 3 then decide (e.count = 1 ∧ e.many = 0) else false
def En.right (e : En) : Bool := decide ((0 ≤ e.first ∧ e.first ≤ 281474976710655) ∧ (0 ≤ e.block ∧ e.block ≤ 255) ∧ (0 ≤ e.mate ∧ e.mate ≤ 65535)) && e.counts
theorem En.right_bounds (e : En) (h : e.right = true) : (0 ≤ e.first ∧ e.first ≤ 281474976710655) ∧ (0 ≤ e.block ∧ e.block ≤ 255) ∧ (0 ≤ e.mate ∧ e.mate ≤ 65535) ∧ (1 ≤ e.count ∧ e.count ≤ 4) ∧ (0 ≤ e.many ∧ e.many ≤ 256) := by
  simp only [En.right, Bool.and_eq_true, decide_eq_true_eq, En.counts] at h
  obtain ⟨⟨h1, h2, h3⟩, h4⟩ := h
  refine ⟨h1, h2, h3, ?_⟩
  split at h4
  · simp only [decide_eq_true_eq] at h4; omega
  · split at h4
    · simp only [decide_eq_true_eq] at h4; omega
    · split at h4
      · simp only [decide_eq_true_eq] at h4; omega
      · simp at h4
def En.body (e : En) : List Nat := leB 6 e.first.toNat ++ leB 1 e.count.toNat ++ leB 1 e.block.toNat ++ leB 2 e.many.toNat ++ leB 2 e.mate.toNat ++ e.bytes
theorem En.body_length (e : En) (h : e.ok) : e.body.length = 44 := by simp [En.body, leB_length, h.1]
theorem En.body_lt (e : En) (h : e.ok) : ∀ c ∈ e.body, c < 256 := fun c hc => by
  simp only [En.body, List.mem_append] at hc
  rcases hc with ((((hc | hc) | hc) | hc) | hc) | hc
  all_goals first | exact leB_lt _ _ c hc | exact h.2 c hc
/-- what a body says -/
def unEn (kind : Int) (s : List Nat) : En := ⟨kind, leV (s.take 6), leV ((s.drop 6).take 1), leV ((s.drop 7).take 1), leV ((s.drop 8).take 2), leV ((s.drop 10).take 2), (s.drop 12).take 32⟩
theorem unEn_ok (kind : Int) (s : List Nat) (hs : s.length = 44) (hb : ∀ c ∈ s, c < 256) : (unEn kind s).ok := by
  refine ⟨by simp [unEn]; omega, fun c hc => hb c ?_⟩
  exact List.mem_of_mem_drop (List.mem_of_mem_take hc)
theorem body_unEn (kind : Int) (s : List Nat) (hs : s.length = 44) (hb : ∀ c ∈ s, c < 256) : (unEn kind s).body = s := by
  have h0 := leB_of s hb 0 6 (by omega)
  have h1 := leB_of s hb 6 1 (by omega)
  have h2 := leB_of s hb 7 1 (by omega)
  have h4 := leB_of s hb 8 2 (by omega)
  have h6 := leB_of s hb 10 2 (by omega)
  rw [List.drop_zero] at h0
  simp only [En.body, unEn, Int.toNat_natCast, h0, h1, h2, h4, h6]
  have cut : ∀ a n : Nat, s.take a ++ (s.drop a).take n = s.take (a + n) := fun a n => by rw [List.take_add]
  rw [cut 6 1, cut 7 1, cut 8 2, cut 10 2, cut 12 32, List.take_of_length_le (by omega)]
theorem unEn_body (e : En) (h : e.ok) (hr : e.right = true) : unEn e.kind e.body = e := by
  obtain ⟨h1, h2, h3, h4, h5⟩ := e.right_bounds hr
  have k : ∀ (a b c d g i : List Nat), a.length = 6 → b.length = 1 → c.length = 1 → d.length = 2 → g.length = 2 → i.length = 32 →
      unEn e.kind (a ++ b ++ c ++ d ++ g ++ i) = ⟨e.kind, leV a, leV b, leV c, leV d, leV g, i⟩ := by
    intro a b c d g i ha hb hc hd hg hi
    simp [unEn, List.drop_append, List.take_append, ha, hb, hc, hd, hg, hi, List.drop_eq_nil_of_le, List.take_of_length_le]
  have e1 := k _ _ _ _ _ _ (leB_length 6 e.first.toNat) (leB_length 1 e.count.toNat) (leB_length 1 e.block.toNat) (leB_length 2 e.many.toNat) (leB_length 2 e.mate.toNat) h.1
  rw [En.body, e1, leV_leB _ _ (by show _ < 281474976710656; omega), leV_leB _ _ (by show _ < 256; omega), leV_leB _ _ (by show _ < 256; omega), leV_leB _ _ (by show _ < 65536; omega), leV_leB _ _ (by show _ < 65536; omega)]
  cases e
  simp only [En.mk.injEq, and_true, true_and]
  simp only at *
  omega
theorem body_inj (a b : En) (ha : a.ok) (hb : b.ok) (ra : a.right = true) (rb : b.right = true) (hk : a.kind = b.kind) (h : a.body = b.body) : a = b := by
  rw [← unEn_body a ha ra, h, hk, unEn_body b hb rb]
theorem zeroE_ok : En.zero.ok := ⟨by simp [En.zero], by simp [En.zero]⟩
/-- what is told of a body -/
def ofB (kind : Int) (s : List Nat) : En × Int := if (unEn kind s).right = true then (unEn kind s, 0) else (En.zero, 10)
/-- an entry's frame, and what went wrong -/
def En.fr (e : En) (zone off epoch seq : Int) : Fr := ⟨e.kind, zone, off, epoch, seq, e.body⟩
def En.frame (e : En) (zone off epoch seq : Int) : Fr × Int :=
  if e.right = true ∧ (e.fr zone off epoch seq).right = true ∧ e.first ≤ seq ∧ seq < e.first + e.count then (e.fr zone off epoch seq, 0) else (Fr.zero, 10)
def rdE (f : Fr) : En × Int :=
  if (unEn f.kind f.body).right = true ∧ f.right = true ∧ (unEn f.kind f.body).first ≤ f.seq ∧ f.seq < (unEn f.kind f.body).first + (unEn f.kind f.body).count then (unEn f.kind f.body, 0) else (En.zero, 10)
theorem fr_ok (e : En) (h : e.ok) (zone off epoch seq : Int) : (e.fr zone off epoch seq).ok := ⟨e.body_length h, e.body_lt h⟩
theorem frame_ok (e : En) (h : e.ok) (zone off epoch seq : Int) : (e.frame zone off epoch seq).1.ok := by
  unfold En.frame
  split
  · exact fr_ok e h _ _ _ _
  · exact zero_ok
theorem ofB_ok (kind : Int) (s : List Nat) (hs : s.length = 44) (hb : ∀ c ∈ s, c < 256) : (ofB kind s).1.ok := by
  unfold ofB
  split
  · exact unEn_ok kind s hs hb
  · exact zeroE_ok
theorem fr_of (f : Fr) (h : f.ok) : (unEn f.kind f.body).fr f.zone f.off f.epoch f.seq = f := by
  have := body_unEn f.kind f.body h.1 h.2
  rw [En.fr, this]; cases f; rfl
end Go.Proofs.Ytncooadaeifekaa.M
