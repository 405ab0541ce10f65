/- Plain laws of frames: a frame's sector, a sector's frame. No program in sight. -/
import Derived.Test.YtncooadaeifekaaC9
namespace Go.Proofs.Ytncooadaeifekaa.M
structure Fr where
  kind : Int
  zone : Int
  off : Int
  epoch : Int
  seq : Int
  body : List Nat
deriving DecidableEq
def Fr.ok (f : Fr) : Prop := f.body.length = 44 ∧ ∀ c ∈ f.body, c < 256
def Fr.right (f : Fr) : Bool := decide ((1 ≤ f.kind ∧ f.kind ≤ 5) ∧ (0 ≤ f.zone ∧ f.zone ≤ 65535) ∧ (0 ≤ f.off ∧ f.off ≤ 65535) ∧ (1 ≤ f.epoch ∧ f.epoch ≤ 4294967295) ∧ (0 ≤ f.seq ∧ f.seq ≤ 281474976710655))
def Fr.zero : Fr := ⟨0, 0, 0, 0, 0, List.replicate 44 0⟩
/-- the sector's bytes ahead of the sum -/
def Fr.pre (f : Fr) : List Nat := leB 1 f.kind.toNat ++ leB 1 1 ++ leB 2 f.zone.toNat ++ leB 2 f.off.toNat ++ leB 4 f.epoch.toNat ++ leB 6 f.seq.toNat ++ f.body
def Fr.sec (f : Fr) : List Nat := f.pre ++ leB 4 (crc f.pre)
theorem Fr.pre_length (f : Fr) (h : f.ok) : f.pre.length = 60 := by simp [Fr.pre, leB_length, h.1]
theorem Fr.pre_lt (f : Fr) (h : f.ok) : ∀ c ∈ f.pre, c < 256 := fun c hc => by
  simp only [Fr.pre, List.mem_append] at hc
  rcases hc with (((((hc | hc) | hc) | hc) | hc) | hc) | hc
  all_goals first | exact leB_lt _ _ c hc | exact h.2 c hc
theorem Fr.sec_length (f : Fr) (h : f.ok) : f.sec.length = 64 := by rw [Fr.sec, List.length_append, Fr.pre_length f h, leB_length]
theorem Fr.sec_lt (f : Fr) (h : f.ok) : ∀ c ∈ f.sec, c < 256 := fun c hc => by
  rcases List.mem_append.1 hc with hc | hc
  · exact f.pre_lt h c hc
  · exact leB_lt _ _ c hc
/-- what a sector says, and its version -/
def unFr (s : List Nat) : Fr := ⟨leV (s.take 1), leV ((s.drop 2).take 2), leV ((s.drop 4).take 2), leV ((s.drop 6).take 4), leV ((s.drop 10).take 6), (s.drop 16).take 44⟩
def ver (s : List Nat) : Nat := leV ((s.drop 1).take 1)
theorem unFr_ok (s : List Nat) (hs : 60 ≤ s.length) (hb : ∀ c ∈ s, c < 256) : (unFr s).ok := by
  refine ⟨by simp [unFr]; omega, fun c hc => hb c ?_⟩
  exact List.mem_of_mem_drop (List.mem_of_mem_take hc)
theorem unFr_nonneg (s : List Nat) : 0 ≤ (unFr s).kind ∧ 0 ≤ (unFr s).zone ∧ 0 ≤ (unFr s).off ∧ 0 ≤ (unFr s).epoch ∧ 0 ≤ (unFr s).seq := by simp [unFr]
/-- a sector's bytes are written again as they were -/
theorem leB_of (s : List Nat) (hb : ∀ c ∈ s, c < 256) (a n : Nat) (h : a + n ≤ s.length) : leB n (leV ((s.drop a).take n)) = (s.drop a).take n := by
  have hl : ((s.drop a).take n).length = n := by simp; omega
  have := leB_leV ((s.drop a).take n) fun c hc => hb c (List.mem_of_mem_drop (List.mem_of_mem_take hc))
  rw [hl] at this
  exact this
theorem pre_unFr (s : List Nat) (hs : 60 ≤ s.length) (hb : ∀ c ∈ s, c < 256) (hv : ver s = 1) : (unFr s).pre = s.take 60 := by
  have h0 := leB_of s hb 0 1 (by omega)
  have h1 := leB_of s hb 1 1 (by omega)
  have h2 := leB_of s hb 2 2 (by omega)
  have h4 := leB_of s hb 4 2 (by omega)
  have h6 := leB_of s hb 6 4 (by omega)
  have h10 := leB_of s hb 10 6 (by omega)
  rw [List.drop_zero] at h0
  rw [ver] at hv
  rw [hv] at h1
  simp only [Fr.pre, unFr, Int.toNat_natCast, h0, h1, h2, h4, h6, h10]
  have cut : ∀ a n : Nat, s.take a ++ (s.drop a).take n = s.take (a + n) := fun a n => by rw [List.take_add]
  rw [cut 1 1, cut 2 2, cut 4 2, cut 6 4, cut 10 6, cut 16 44]
/-- a frame that may be is told again -/
theorem unFr_pre (f : Fr) (h : f.ok) (hr : f.right = true) (t : List Nat) : unFr (f.pre ++ t) = f ∧ ver (f.pre ++ t) = 1 := by
  simp only [Fr.right, decide_eq_true_eq] at hr
  obtain ⟨⟨h1, h2⟩, ⟨h3, h4⟩, ⟨h5, h6⟩, ⟨h7, h8⟩, h9, h10⟩ := hr
  have e : ∀ (a b c d g i j : List Nat), a.length = 1 → b.length = 1 → c.length = 2 → d.length = 2 → g.length = 4 → i.length = 6 → j.length = 44 →
      unFr (a ++ b ++ c ++ d ++ g ++ i ++ j ++ t) = ⟨leV a, leV c, leV d, leV g, leV i, j⟩ ∧ ver (a ++ b ++ c ++ d ++ g ++ i ++ j ++ t) = leV b := by
    intro a b c d g i j ha hb hc hd hg hi hj
    constructor
    · simp [unFr, List.drop_append, ha, hb, hc, hd, hg, hi, hj, List.drop_eq_nil_of_le]
    · simp [ver, ha, hb]
  obtain ⟨e1, e2⟩ := e _ _ _ _ _ _ _ (leB_length 1 f.kind.toNat) (leB_length 1 1) (leB_length 2 f.zone.toNat) (leB_length 2 f.off.toNat) (leB_length 4 f.epoch.toNat) (leB_length 6 f.seq.toNat) h.1
  refine ⟨?_, ?_⟩
  · rw [Fr.pre, e1, leV_leB _ _ (by show _ < 256; omega), leV_leB _ _ (by show _ < 65536; omega), leV_leB _ _ (by show _ < 65536; omega), leV_leB _ _ (by show _ < 4294967296; omega), leV_leB _ _ (by show _ < 281474976710656; omega)]
    cases f
    simp only [Fr.mk.injEq, and_true]
    simp only at *
    omega
  · rw [Fr.pre, e2]; rfl
/-- the sector's check: the last four bytes are the sum of those ahead -/
def sealed (s : List Nat) : Bool := decide (s.drop 60 = leB 4 (crc (s.take 60)))
theorem sealed_sec (f : Fr) (h : f.ok) : sealed f.sec = true := by
  have hl := f.pre_length h
  rw [sealed, decide_eq_true_eq]
  have h1 : f.sec.drop 60 = leB 4 (crc f.pre) := by rw [Fr.sec, List.drop_append, hl]; simp [List.drop_eq_nil_of_le, hl]
  have h2 : f.sec.take 60 = f.pre := by rw [Fr.sec, List.take_append, hl]; simp [List.take_of_length_le, hl]
  rw [h1, h2]
theorem unFr_sec (f : Fr) (h : f.ok) (hr : f.right = true) : unFr f.sec = f ∧ ver f.sec = 1 := unFr_pre f h hr _
theorem sec_unFr (s : List Nat) (hs : s.length = 64) (hb : ∀ c ∈ s, c < 256) (hv : ver s = 1) (hc : sealed s = true) : (unFr s).sec = s := by
  rw [sealed, decide_eq_true_eq] at hc
  rw [Fr.sec, pre_unFr s (by omega) hb hv, ← hc, List.take_append_drop]
theorem sec_inj (f g : Fr) (hf : f.ok) (hg : g.ok) (rf : f.right = true) (rg : g.right = true) (h : f.sec = g.sec) : f = g := by
  rw [← (unFr_sec f hf rf).1, h, (unFr_sec g hg rg).1]
end Go.Proofs.Ytncooadaeifekaa.M
