/- Lemmas, contracts and walks, merged (texts M K K2 K3 K4 K5 K6 C1 C2 C3 M2 C4 C5 C6 G G2 G3 G4 C7). No condition but what each states. -/
import Derived.Test.YtncooadaeifekaaProg
import Derived.WalkKit
import Derived.WalkLawsBesides
import Derived.Deep.QuietTactic
import Derived.BigQuiet
import Derived.Handy
import Derived.Deep.WholeRow
import Derived.Laws.CopyOwn
import Derived.Deep.Cut
import Derived.Maps.AppendAt
import Derived.Lib.SlBytesConst
/- Plain laws, no program in sight: the checksum's word gone on by bits and bytes is linear and injective; bursts, two bits, single flips; long division by the generator; numbers in bytes, lowest first. -/
namespace Go.Proofs.Ytncooadaeifekaa.M
def stp (r : Nat) : Nat := if r % 2 = 1 then (r / 2) ^^^ 2197175160 else r / 2
theorem stp_xor (a b : Nat) : stp (a ^^^ b) = stp a ^^^ stp b := by
  have h1 : (a ^^^ b) / 2 = a / 2 ^^^ b / 2 := Nat.xor_div_two
  have h2 : (a ^^^ b) % 2 = (a + b) % 2 := by have := Nat.xor_mod_two_pow (a := a) (b := b) (n := 1); simp only [Nat.pow_one] at this; rw [this]; rcases Nat.mod_two_eq_zero_or_one a with ha | ha <;> rcases Nat.mod_two_eq_zero_or_one b with hb | hb <;> rw [ha, hb, Nat.add_mod, ha, hb] <;> rfl
  unfold stp
  rw [h1, h2]
  rcases Nat.mod_two_eq_zero_or_one a with ha | ha <;> rcases Nat.mod_two_eq_zero_or_one b with hb | hb
  · rw [if_neg (by omega), if_neg (by omega), if_neg (by omega)]
  · rw [if_pos (by omega), if_neg (by omega), if_pos (by omega), Nat.xor_assoc]
  · rw [if_pos (by omega), if_pos (by omega), if_neg (by omega), Nat.xor_assoc, Nat.xor_assoc, Nat.xor_comm (b/2)]
  · rw [if_neg (by omega), if_pos (by omega), if_pos (by omega)]
    rw [Nat.xor_assoc, Nat.xor_comm (b/2), ← Nat.xor_assoc 2197175160, Nat.xor_self, Nat.zero_xor]
theorem stp_lt (r : Nat) (h : r < 4294967296) : stp r < 4294967296 := by
  unfold stp; split
  · exact Nat.xor_lt_two_pow (n := 32) (by omega) (by omega)
  · omega
theorem stp_zero : stp 0 = 0 := by decide
theorem stp_inj0 (r : Nat) (h : r < 4294967296) (h0 : stp r = 0) : r = 0 := by
  unfold stp at h0; split at h0
  · have := Nat.xor_lt_two_pow (n := 31) (x := r/2) (y := 2197175160 ) 
    have h3 : r / 2 = 2197175160 := by
      have := congrArg (· ^^^ 2197175160) h0
      simpa [Nat.xor_assoc] using this
    omega
  · omega
def stpN : Nat → Nat → Nat
  | 0, r => r
  | n + 1, r => stpN n (stp r)
theorem stpN_xor (n a b : Nat) : stpN n (a ^^^ b) = stpN n a ^^^ stpN n b := by
  induction n generalizing a b with
  | zero => rfl
  | succ n ih => simp only [stpN, stp_xor, ih]
theorem stpN_lt (n r : Nat) (h : r < 4294967296) : stpN n r < 4294967296 := by
  induction n generalizing r with
  | zero => exact h
  | succ n ih => exact ih _ (stp_lt _ h)
theorem stpN_zero (n : Nat) : stpN n 0 = 0 := by
  induction n with
  | zero => rfl
  | succ n ih => simp only [stpN, stp_zero, ih]
theorem stpN_inj0 (n r : Nat) (h : r < 4294967296) (h0 : stpN n r = 0) : r = 0 := by
  induction n generalizing r with
  | zero => exact h0
  | succ n ih => exact stp_inj0 r h (ih _ (stp_lt _ h) h0)
theorem stpN_add (m n r : Nat) : stpN (m + n) r = stpN n (stpN m r) := by
  induction m generalizing r with
  | zero => simp [stpN]
  | succ m ih => rw [Nat.add_right_comm]; simp only [stpN, ih]
theorem stpN_shift (n k : Nat) : stpN n (2 ^ n * k) = k := by
  induction n with
  | zero => simp [stpN]
  | succ n ih =>
    simp only [stpN]
    have : stp (2 ^ (n + 1) * k) = 2 ^ n * k := by
      unfold stp
      have e : 2 ^ (n + 1) * k = 2 * (2 ^ n * k) := by rw [Nat.pow_succ]; simp only [Nat.mul_comm, Nat.mul_left_comm]
      rw [e, if_neg (by omega)]; omega
    rw [this, ih]

theorem split8 (r : Nat) : r = (2 ^ 8 * (r / 256)) ^^^ (r % 256) := by
  apply Nat.eq_of_testBit_eq
  intro i
  rw [Nat.testBit_xor, show (r % 256) = r % 2 ^ 8 from rfl, Nat.testBit_mod_two_pow, Nat.mul_comm, Nat.testBit_mul_two_pow, show r / 256 = r / 2 ^ 8 from rfl, Nat.testBit_div_two_pow]
  by_cases h : i < 8
  · simp [h, show ¬ 8 ≤ i by omega]
  · simp [h, show 8 ≤ i by omega, show i - 8 + 8 = i by omega]
/-- one byte -/
def bst (r c : Nat) : Nat := stpN 8 (r ^^^ c)
def tb (i : Nat) : Nat := stpN 8 i
theorem bst_lt (r c : Nat) (h : r < 4294967296) (hc : c < 256) : bst r c < 4294967296 :=
  stpN_lt _ _ (Nat.xor_lt_two_pow (n := 32) (by omega) (by omega))
theorem bst_eq (r c : Nat) : bst r c = (r / 256) ^^^ tb ((r % 256) ^^^ c) := by
  unfold bst tb
  conv => lhs; rw [split8 r, Nat.xor_assoc, stpN_xor, stpN_shift 8]
theorem tb_lt (i : Nat) (h : i < 256) : tb i < 4294967296 := stpN_lt _ _ (by omega)
theorem xor4 (r s c d : Nat) : r ^^^ s ^^^ (c ^^^ d) = r ^^^ c ^^^ (s ^^^ d) := by
  rw [Nat.xor_assoc, Nat.xor_assoc, ← Nat.xor_assoc s, Nat.xor_comm s, Nat.xor_assoc c]
theorem bst_xor (r s c d : Nat) : bst (r ^^^ s) (c ^^^ d) = bst r c ^^^ bst s d := by
  unfold bst
  rw [← stpN_xor, xor4]
theorem bst_zero (r : Nat) : bst r 0 = stpN 8 r := by rw [bst, Nat.xor_zero]
def over (r : Nat) (l : List Nat) : Nat := l.foldl bst r
theorem over_nil (r : Nat) : over r [] = r := rfl
theorem over_cons (r c : Nat) (l : List Nat) : over r (c :: l) = over (bst r c) l := by unfold over; exact List.foldl_cons ..
theorem over_append (r : Nat) (a b : List Nat) : over r (a ++ b) = over (over r a) b := by
  unfold over; exact List.foldl_append ..
theorem over_lt (r : Nat) (l : List Nat) (h : r < 4294967296) (hl : ∀ c ∈ l, c < 256) : over r l < 4294967296 := by
  induction l generalizing r with
  | nil => exact h
  | cons c l ih => rw [over_cons]; exact ih _ (bst_lt _ _ h (hl c (by simp))) fun x hx => hl x (by simp [hx])
theorem over_xor (a b : List Nat) (r s : Nat) (h : a.length = b.length) : over (r ^^^ s) (List.zipWith (· ^^^ ·) a b) = over r a ^^^ over s b := by
  induction a generalizing b r s with
  | nil => cases b with
    | nil => rfl
    | cons => simp at h
  | cons c a ih => cases b with
    | nil => simp at h
    | cons d b =>
      simp only [List.zipWith_cons_cons, over_cons]
      rw [← ih b _ _ (by simpa using h)]
      rw [bst_xor]
theorem over_zeros (n r : Nat) : over r (List.replicate n 0) = stpN (8 * n) r := by
  induction n generalizing r with
  | zero => rfl
  | succ n ih =>
    rw [List.replicate_succ, over_cons, ih, show 8 * (n + 1) = 8 + 8 * n by omega, stpN_add, bst_zero]
def feed (r : Nat) : Nat → (Nat → Bool) → Nat
  | 0, _ => r
  | n + 1, f => stp (feed r n f ^^^ (f n).toNat)
theorem feed_add (r m n : Nat) (f : Nat → Bool) : feed r (m + n) f = feed (feed r m f) n (fun i => f (m + i)) := by
  induction n with
  | zero => rfl
  | succ n ih => rw [← Nat.add_assoc]; simp only [feed, ih]
theorem feed_congr (r n : Nat) (f g : Nat → Bool) (h : ∀ i, i < n → f i = g i) : feed r n f = feed r n g := by
  induction n with
  | zero => rfl
  | succ n ih => simp only [feed, ih (fun i hi => h i (by omega)), h n (by omega)]
theorem stpN_succ' (n r : Nat) : stpN (n + 1) r = stp (stpN n r) := by rw [stpN_add]; rfl
theorem feed_word (n r w : Nat) : feed r n (fun i => w.testBit i) = stpN n (r ^^^ (w % 2 ^ n)) := by
  induction n with
  | zero => simp [feed, stpN, Nat.mod_one]
  | succ n ih =>
    have e : w % 2 ^ (n + 1) = (w % 2 ^ n) ^^^ (2 ^ n * (w.testBit n).toNat) := by
      apply Nat.eq_of_testBit_eq
      intro i
      rw [Nat.testBit_xor, Nat.testBit_mod_two_pow, Nat.testBit_mod_two_pow, Nat.mul_comm, Nat.testBit_mul_two_pow]
      by_cases h : i < n
      · simp [h, show i < n + 1 by omega, show ¬ n ≤ i by omega]
      · by_cases h2 : i = n
        · subst h2; cases w.testBit i <;> simp
        · have : 1 ≤ i - n := by omega
          have : ((w.testBit n).toNat).testBit (i - n) = false := by
            apply Nat.testBit_lt_two_pow
            have := Bool.toNat_lt (w.testBit n)
            calc _ < 2 := this
              _ = 2 ^ 1 := rfl
              _ ≤ _ := Nat.pow_le_pow_right (by decide) (by omega)
          simp [h, show ¬ i < n + 1 by omega, this]
    simp only [feed]
    rw [ih, stpN_succ', e, ← Nat.xor_assoc, stpN_xor n _ (2 ^ n * _), stpN_shift]
theorem feed_zero (n r : Nat) (f : Nat → Bool) (h : ∀ i, i < n → f i = false) : feed r n f = stpN n r := by
  induction n with
  | zero => rfl
  | succ n ih => simp only [feed]; rw [ih (fun i hi => h i (by omega)), h n (by omega), stpN_succ']; simp
/-- bit i of bytes -/
def bitL (l : List Nat) (i : Nat) : Bool := (l.getD (i / 8) 0).testBit (i % 8)
theorem over_feed (l : List Nat) (r : Nat) (hl : ∀ c ∈ l, c < 256) : over r l = feed r (8 * l.length) (bitL l) := by
  induction l generalizing r with
  | nil => rfl
  | cons c l ih =>
    have hc : c < 2 ^ 8 := hl c (by simp)
    rw [over_cons, ih _ (fun x hx => hl x (by simp [hx])), List.length_cons, show 8 * (l.length + 1) = 8 + 8 * l.length by omega, feed_add]
    have e1 : feed r 8 (bitL (c :: l)) = bst r c := by
      rw [feed_congr r 8 _ (fun i => c.testBit i) (fun i hi => by simp [bitL, Nat.div_eq_of_lt hi, Nat.mod_eq_of_lt hi]), feed_word, Nat.mod_eq_of_lt hc, bst]
    rw [e1]
    apply feed_congr
    intro i _
    unfold bitL
    rw [show (8 + i) / 8 = i / 8 + 1 by omega, show (8 + i) % 8 = i % 8 by omega]
    rfl
theorem feed_lt (r n : Nat) (f : Nat → Bool) (h : r < 4294967296) : feed r n f < 4294967296 := by
  induction n with
  | zero => exact h
  | succ n ih =>
    refine stp_lt _ (Nat.xor_lt_two_pow (n := 32) ih ?_)
    have := Bool.toNat_lt (f n); omega
theorem feed_xor (r s n : Nat) (f g : Nat → Bool) : feed (r ^^^ s) n (fun i => f i ^^ g i) = feed r n f ^^^ feed s n g := by
  induction n with
  | zero => rfl
  | succ n ih =>
    simp only [feed]
    rw [ih, ← stp_xor]
    congr 1
    have : (f n ^^ g n).toNat = (f n).toNat ^^^ (g n).toNat := by cases f n <;> cases g n <;> rfl
    rw [this, Nat.xor_assoc, Nat.xor_assoc, ← Nat.xor_assoc (feed s n g), Nat.xor_comm (feed s n g), Nat.xor_assoc (f n).toNat]
/-- a burst is no multiple -/
theorem burst_ne (l : List Nat) (hl : ∀ c ∈ l, c < 256) (word a : Nat) (hw : 0 < word) (hw2 : word < 4294967296) (ha : a + 32 ≤ 8 * l.length)
    (hb : ∀ i, i < 8 * l.length → bitL l i = (decide (a ≤ i ∧ i < a + 32) && word.testBit (i - a))) : over 0 l ≠ 0 := by
  rw [over_feed l 0 hl]
  intro h
  have e : 8 * l.length = a + (32 + (8 * l.length - a - 32)) := by omega
  rw [e, feed_add, feed_add] at h
  rw [feed_zero a 0 _ (fun i hi => by rw [hb i (by omega)]; simp; omega), stpN_zero] at h
  rw [feed_zero _ _ _ (fun i hi => by rw [hb _ (by omega)]; simp; omega)] at h
  rw [feed_congr 0 32 _ (fun i => word.testBit i) (fun i hi => by rw [hb _ (by omega)]; simp; omega)] at h
  rw [feed_word, Nat.zero_xor, Nat.mod_eq_of_lt hw2] at h
  have h1 := stpN_inj0 _ _ (stpN_lt _ _ hw2) h
  have h2 := stpN_inj0 _ _ hw2 h1
  omega
end Go.Proofs.Ytncooadaeifekaa.M
namespace Go.Proofs.Ytncooadaeifekaa.M
def chk : Nat → Nat → Bool
  | 0, _ => true
  | n + 1, r => (stp r != 1) && chk n (stp r)
theorem chk_sound (n r : Nat) (h : chk n r = true) : ∀ d, 0 < d → d ≤ n → stpN d r ≠ 1 := by
  induction n generalizing r with
  | zero => intro d h1 h2; omega
  | succ n ih =>
    intro d h1 h2
    simp only [chk, Bool.and_eq_true, bne_iff_ne, ne_eq] at h
    obtain ⟨d, rfl⟩ : ∃ k, d = k + 1 := ⟨d - 1, by omega⟩
    rw [stpN]
    by_cases hd : d = 0
    · subst hd; exact h.1
    · exact ih _ h.2 d (by omega) (by omega)
theorem chk4000 : chk 4000 1 = true := by decide +kernel
theorem two_ne (l : List Nat) (hl : ∀ c ∈ l, c < 256) (a b : Nat) (hab : a < b) (hd : b - a ≤ 4000) (hb : b < 8 * l.length)
    (h : ∀ i, i < 8 * l.length → bitL l i = decide (i = a ∨ i = b)) : over 0 l ≠ 0 := by
  rw [over_feed l 0 hl]
  intro h0
  have e : 8 * l.length = a + (1 + ((b - a - 1) + (1 + (8 * l.length - b - 1)))) := by omega
  rw [e, feed_add, feed_add, feed_add, feed_add] at h0
  rw [feed_zero a 0 _ (fun i hi => by rw [h i (by omega)]; simp; omega), stpN_zero] at h0
  rw [feed_zero _ _ _ (fun i hi => by rw [h _ (by omega)]; simp; omega)] at h0
  rw [feed_zero (b - a - 1) _ _ (fun i hi => by rw [h _ (by omega)]; simp; omega)] at h0
  simp only [feed] at h0
  rw [h _ (by omega), h _ (by omega)] at h0
  rw [show decide (a + 0 = a ∨ a + 0 = b) = true by simp, show decide (a + (1 + (b - a - 1 + 0)) = a ∨ a + (1 + (b - a - 1 + 0)) = b) = true by simp; omega] at h0
  have h1 := stpN_inj0 _ _ (stp_lt _ (Nat.xor_lt_two_pow (n := 32) (stpN_lt _ _ (stp_lt _ (by decide))) (by decide))) h0
  have h2 := stp_inj0 _ (Nat.xor_lt_two_pow (n := 32) (stpN_lt _ _ (stp_lt _ (by decide))) (by decide)) h1
  have h3 : stpN (b - a) 1 = 1 := by
    have h4 := congrArg (· ^^^ 1) h2
    simp only [Bool.toNat_true, Nat.xor_assoc, Nat.xor_self, Nat.xor_zero, Nat.zero_xor] at h4
    rw [show b - a = 1 + (b - a - 1) by omega, stpN_add]
    exact h4
  exact chk_sound 4000 1 chk4000 (b - a) (by omega) hd h3
theorem xor_cancel_left {a b c : Nat} (h : a ^^^ b = a ^^^ c) : b = c := by
  have := congrArg (a ^^^ ·) h
  simpa [← Nat.xor_assoc] using this
theorem tb_xor (a b : Nat) : tb (a ^^^ b) = tb a ^^^ tb b := stpN_xor ..
theorem stpN_inj (n a b : Nat) (ha : a < 4294967296) (hb : b < 4294967296) (h : stpN n a = stpN n b) : a = b := by
  have h0 : stpN n (a ^^^ b) = 0 := by rw [stpN_xor, h, Nat.xor_self]
  have := stpN_inj0 n _ (Nat.xor_lt_two_pow (n := 32) ha hb) h0
  apply (xor_cancel_left (a := b) ?_)
  rw [Nat.xor_comm b a, this, Nat.xor_self]
theorem tb_inj (a b : Nat) (ha : a < 256) (hb : b < 256) : tb a = tb b ↔ a = b :=
  ⟨stpN_inj 8 a b (by omega) (by omega), fun h => by rw [h]⟩
theorem flip_ne (l m : List Nat) (hl : ∀ c ∈ l, c < 256) (hm : ∀ c ∈ m, c < 256) (hlen : m.length = l.length) (k r : Nat) (hk : k < 8 * l.length)
    (h : ∀ i, i < 8 * l.length → bitL m i = (bitL l i ^^ decide (i = k))) : over r m ≠ over r l := by
  rw [over_feed l r hl, over_feed m r hm, hlen, feed_congr r _ (bitL m) _ h]
  have e := feed_xor r 0 (8 * l.length) (bitL l) (fun i => decide (i = k))
  rw [Nat.xor_zero] at e
  rw [e]
  intro h0
  have h1 : feed 0 (8 * l.length) (fun i => decide (i = k)) = 0 := by
    apply xor_cancel_left (a := feed r (8 * l.length) (bitL l)); rw [h0, Nat.xor_zero]
  rw [show 8 * l.length = k + (1 + (8 * l.length - k - 1)) by omega, feed_add, feed_add] at h1
  rw [feed_zero k 0 _ (fun i hi => by simp; omega), stpN_zero] at h1
  rw [feed_zero _ _ _ (fun i hi => by simp)] at h1
  simp only [feed, Nat.add_zero, decide_true, Bool.toNat_true, Nat.zero_xor] at h1
  have h2 := stpN_inj0 _ _ (stp_lt _ (by decide)) h1
  exact absurd (stp_inj0 _ (by decide) h2) (by decide)
end Go.Proofs.Ytncooadaeifekaa.M
namespace Go.Proofs.Ytncooadaeifekaa.M
def wd : Nat → (Nat → Bool) → Nat
  | 0, _ => 0
  | n + 1, h => wd n h ^^^ 2 ^ n * (h n).toNat
theorem bool_testBit (b : Bool) (k : Nat) : b.toNat.testBit k = (b && decide (k = 0)) := by
  cases b
  · simp
  · by_cases h : k = 0
    · subst h; rfl
    · rw [Bool.toNat_true, Nat.testBit_lt_two_pow (Nat.lt_of_lt_of_le (by decide : 1 < 2 ^ 1) (Nat.pow_le_pow_right (by decide) (by omega)))]; simp [h]
theorem wd_testBit (n : Nat) (h : Nat → Bool) (i : Nat) : (wd n h).testBit i = (decide (i < n) && h i) := by
  induction n with
  | zero => simp [wd]
  | succ n ih =>
    rw [wd, Nat.testBit_xor, ih, Nat.mul_comm, Nat.testBit_mul_two_pow, bool_testBit]
    by_cases h1 : i < n
    · simp [h1, show i < n + 1 by omega, show ¬ n ≤ i by omega]
    · by_cases h2 : i = n
      · subst h2; simp
      · simp [h1, show ¬ i < n + 1 by omega, show i - n ≠ 0 by omega]
theorem wd_lt (n : Nat) (h : Nat → Bool) : wd n h < 2 ^ n := by
  apply Nat.lt_pow_two_of_testBit
  intro i hi
  rw [wd_testBit, decide_eq_false (by omega)]; rfl
theorem feed_wd (n r : Nat) (h : Nat → Bool) : feed r n h = stpN n (r ^^^ wd n h) := by
  rw [feed_congr r n h (fun i => (wd n h).testBit i) (fun i hi => by rw [wd_testBit]; simp [hi]), feed_word, Nat.mod_eq_of_lt (wd_lt n h)]
theorem feed_inv (n : Nat) (hn : n ≤ 32) (h : Nat → Bool) (h0 : feed 0 n h = 0) (i : Nat) (hi : i < n) : h i = false := by
  rw [feed_wd, Nat.zero_xor] at h0
  have h1 : wd n h < 4294967296 := Nat.lt_of_lt_of_le (wd_lt n h) (Nat.pow_le_pow_right (by decide) hn : 2 ^ n ≤ 2 ^ 32)
  have h2 := wd_testBit n h i
  rw [stpN_inj0 n _ h1 h0] at h2
  simpa [hi] using h2.symm
theorem feed_self (r : Nat) (n : Nat) (hn : n ≤ 32) (g : Nat → Bool) (hg : ∀ i, n ≤ i → r.testBit i = false) :
    feed r n g = 0 ↔ ∀ i, i < n → g i = r.testBit i := by
  have hw : wd n (fun i => r.testBit i) = r := by
    apply Nat.eq_of_testBit_eq; intro i; rw [wd_testBit]
    by_cases h : i < n
    · simp [h]
    · simp [h, hg i (by omega)]
  have e : feed r n g = feed 0 n (fun i => r.testBit i ^^ g i) := by
    have := feed_xor r 0 n (fun i => r.testBit i) (fun i => r.testBit i ^^ g i)
    simp only [Nat.xor_zero] at this
    rw [feed_wd n r (fun i => r.testBit i), hw, Nat.xor_self, stpN_zero, Nat.zero_xor] at this
    rw [← this]
    apply feed_congr; intro i _; cases r.testBit i <;> cases g i <;> rfl
  rw [e]
  constructor
  · intro h i hi
    have := feed_inv n hn _ h i hi
    revert this
    cases r.testBit i <;> cases g i <;> decide
  · intro h
    rw [feed_zero _ _ _ (fun i hi => by rw [h i hi]; simp), stpN_zero]
/-- what stands in the list while it is divided -/
def inv (f : Nat → Bool) (i : Nat) (P : Nat → Bool) : Prop :=
  ∀ j, P j = (decide (i ≤ j) && (f j ^^ (decide (j < i + 32) && (feed 0 i f).testBit (j - i))))
theorem inv_zero (f : Nat → Bool) : inv f 0 f := by intro j; simp [feed]
def gbit (m : Nat) : Bool := decide (m ≤ 32) && (decide (m = 0) || (2197175160 : Nat).testBit (m - 1))
theorem stp_testBit (r m : Nat) : (stp r).testBit m = (r.testBit (m + 1) ^^ (r.testBit 0 && (2197175160 : Nat).testBit m)) := by
  unfold stp
  have h0 : r.testBit 0 = decide (r % 2 = 1) := Nat.testBit_zero r
  rw [h0]
  split
  · next h => rw [Nat.testBit_xor, ← Nat.testBit_succ]; simp [h]
  · next h => rw [← Nat.testBit_succ]; simp [h]
theorem inv_step (f : Nat → Bool) (i : Nat) (P : Nat → Bool) (h : inv f i P) :
    inv f (i + 1) (fun j => P j ^^ (P i && (decide (i ≤ j) && gbit (j - i)))) := by
  intro j
  have hi := h i
  simp only [Nat.le_refl, decide_true, Bool.true_and, Nat.sub_self, show i < i + 32 by omega] at hi
  by_cases h1 : i ≤ j
  · by_cases h2 : i = j
    · subst h2
      simp [gbit, show ¬ i + 1 ≤ i by omega]
    · obtain ⟨m, rfl⟩ : ∃ m, j = i + 1 + m := ⟨j - i - 1, by omega⟩
      have hj := h (i + 1 + m)
      show (P (i + 1 + m) ^^ _) = _
      rw [hj, hi]
      rw [show i + 1 + m - i = m + 1 by omega, show i + 1 + m - (i + 1) = m by omega]
      rw [feed, stp_testBit, Nat.testBit_xor, Nat.testBit_xor, bool_testBit, bool_testBit, decide_eq_true h1]
      simp only [gbit, Nat.add_sub_cancel, show m + 1 ≠ 0 by omega, decide_false, Bool.false_or, Bool.and_false, Bool.xor_false, Bool.true_and, decide_true, Bool.and_true]
      have e1 : decide (i + 1 + m < i + 32) = decide (m + 1 < 32) := by congr 1; apply propext; omega
      have e2 : decide (i + 1 + m < i + 1 + 32) = decide (m < 32) := by congr 1; apply propext; omega
      have e3 : decide (m + 1 ≤ 32) = decide (m < 32) := by congr 1
      have e4 : decide (i + 1 ≤ i + 1 + m) = true := by simp
      rw [e1, e2, e3, e4]
      have e5 : 32 ≤ m + 1 → (feed 0 i f).testBit (m + 1) = false := by
        intro hm
        apply Nat.testBit_lt_two_pow
        exact Nat.lt_of_lt_of_le (feed_lt 0 i f (by decide)) (Nat.pow_le_pow_right (by decide) hm : 2 ^ 32 ≤ 2 ^ (m + 1))
      by_cases hm : m < 32
      · by_cases hm2 : m + 1 < 32
        · simp only [hm, hm2, decide_true, Bool.true_and]
          cases f i <;> cases (feed 0 i f).testBit 0 <;> cases f (i + 1 + m) <;> cases (feed 0 i f).testBit (m + 1) <;> cases Nat.testBit 2197175160 m <;> rfl
        · rw [e5 (by omega)]
          simp only [hm, hm2, decide_true, decide_false, Bool.true_and, Bool.false_and]
          cases f i <;> cases (feed 0 i f).testBit 0 <;> cases f (i + 1 + m) <;> cases Nat.testBit 2197175160 m <;> rfl
      · simp [hm, show ¬ m + 1 < 32 by omega]
  · have hj := h j
    simp only [h1, decide_false, Bool.false_and] at hj ⊢
    simp [hj, show ¬ i + 1 ≤ j by omega]
theorem inv_end (f P : Nat → Bool) (N i : Nat) (h : inv f i P) (hi : (N ≤ 32 ∧ i = 0) ∨ (32 ≤ N ∧ i + 32 = N)) : (∀ j, j < N → P j = false) ↔ feed 0 N f = 0 := by
  rcases hi with ⟨h1, rfl⟩ | ⟨h1, h2⟩
  · have e : ∀ j, P j = f j := fun j => by rw [h j]; simp [feed]
    constructor
    · intro ha
      rw [feed_zero N 0 f (fun i hi => by rw [← e]; exact ha i hi), stpN_zero]
    · intro h0 j hj
      rw [e]; exact feed_inv N h1 f h0 j hj
  · subst h2
    have hr := feed_lt 0 i f (by decide)
    rw [feed_add, feed_self _ 32 (by decide) _ (fun k hk => Nat.testBit_lt_two_pow (Nat.lt_of_lt_of_le hr (Nat.pow_le_pow_right (by decide) hk : 2 ^ 32 ≤ 2 ^ k)))]
    constructor
    · intro ha k hk
      have := ha (i + k) (by omega)
      rw [h] at this
      simp only [show i ≤ i + k by omega, show i + k < i + 32 by omega, decide_true, Bool.true_and, Nat.add_sub_cancel_left] at this
      revert this
      cases f (i + k) <;> cases (feed 0 i f).testBit k <;> decide
    · intro ha j hj
      rw [h]
      by_cases hij : i ≤ j
      · have := ha (j - i) (by omega)
        rw [show i + (j - i) = j by omega] at this
        simp [this, show j < i + 32 by omega]
      · simp [hij]
def powers : List Nat := [32, 28, 27, 26, 25, 23, 22, 20, 19, 18, 14, 13, 11, 10, 9, 8, 6, 0]
def tog (at_ : Nat) (P : Nat → Bool) : Nat → Bool := fun j => P j ^^ decide (j = at_)
def togs (i k : Nat) (P : Nat → Bool) : Nat → Bool := (powers.take k).foldl (fun P w => tog (i + 32 - w) P) P
theorem togs_succ (i k : Nat) (P : Nat → Bool) (hk : k < powers.length) : togs i (k + 1) P = tog (i + 32 - powers[k]) (togs i k P) := by
  unfold togs
  rw [List.take_succ_eq_append_getElem hk, List.foldl_append]; rfl
theorem togs_all (i : Nat) (P : Nat → Bool) (j : Nat) : togs i 18 P j = (P j ^^ (decide (i ≤ j) && gbit (j - i))) := by
  have e : togs i 18 P j = (P j ^^ ((powers.map fun w => decide (j = i + 32 - w)).foldl (· ^^ ·) false)) := by
    simp only [togs, powers, List.take, List.foldl, tog, List.map, Bool.xor_assoc, Bool.false_xor]
  rw [e]; congr 1
  by_cases h : i ≤ j ∧ j ≤ i + 32
  · obtain ⟨h1, h2⟩ := h
    obtain ⟨m, rfl⟩ : ∃ m, j = i + m := ⟨j - i, by omega⟩
    have hm : m < 33 := by omega
    have e2 : (powers.map fun w => decide (i + m = i + 32 - w)) = powers.map fun w => decide (m = 32 - w) := by
      apply List.map_congr_left; intro w hw
      have : w ≤ 32 := by revert hw w; decide
      congr 1; apply propext; omega
    rw [e2, Nat.add_sub_cancel_left]
    simp only [show i ≤ i + m by omega, decide_true, Bool.true_and]
    clear e e2 h1 h2
    revert m; decide
  · have e2 : (powers.map fun w => decide (j = i + 32 - w)) = powers.map fun w => false := by
      apply List.map_congr_left; intro w hw
      have : w ≤ 32 := by revert hw w; decide
      rw [decide_eq_false]; omega
    rw [e2]
    by_cases h1 : i ≤ j
    · have : ¬ j - i ≤ 32 := by omega
      simp [gbit, this, powers]
    · simp [h1, powers]
end Go.Proofs.Ytncooadaeifekaa.M
namespace Go.Proofs.Ytncooadaeifekaa.M
def leB : Nat → Nat → List Nat
  | 0, _ => []
  | w + 1, v => v % 256 :: leB w (v / 256)
def leV : List Nat → Nat
  | [] => 0
  | c :: l => c + 256 * leV l
theorem leB_length (w v : Nat) : (leB w v).length = w := by
  induction w generalizing v with
  | zero => rfl
  | succ w ih => simp [leB, ih]
theorem leB_lt (w v : Nat) : ∀ c ∈ leB w v, c < 256 := by
  induction w generalizing v with
  | zero => simp [leB]
  | succ w ih =>
    intro c hc
    simp only [leB, List.mem_cons] at hc
    rcases hc with rfl | hc
    · omega
    · exact ih _ c hc
theorem leV_leB (w v : Nat) (h : v < 256 ^ w) : leV (leB w v) = v := by
  induction w generalizing v with
  | zero => simp [leB, leV] at *; omega
  | succ w ih =>
    rw [leB, leV, ih _ (by rw [Nat.pow_succ] at h; omega)]; omega
theorem leV_lt (l : List Nat) (h : ∀ c ∈ l, c < 256) : leV l < 256 ^ l.length := by
  induction l with
  | nil => simp [leV]
  | cons c l ih =>
    have h1 := h c (by simp)
    have h2 := ih fun x hx => h x (by simp [hx])
    rw [leV, List.length_cons, Nat.pow_succ]; omega
theorem leB_leV (l : List Nat) (h : ∀ c ∈ l, c < 256) : leB l.length (leV l) = l := by
  induction l with
  | nil => rfl
  | cons c l ih =>
    have h1 := h c (by simp)
    have h2 := ih fun x hx => h x (by simp [hx])
    rw [List.length_cons, leB, leV, show (c + 256 * leV l) % 256 = c by omega, show (c + 256 * leV l) / 256 = leV l by omega, h2]
theorem leB_succ' (w v : Nat) : leB (w + 1) v = leB w v ++ [v / 256 ^ w % 256] := by
  induction w generalizing v with
  | zero => simp [leB]
  | succ w ih =>
    rw [leB, ih, leB, List.cons_append, Nat.div_div_eq_div_mul, Nat.pow_succ, Nat.mul_comm 256]
theorem leV_append (a b : List Nat) : leV (a ++ b) = leV a + 256 ^ a.length * leV b := by
  induction a with
  | nil => simp [leV]
  | cons c a ih =>
    rw [List.cons_append, leV, leV, ih, List.length_cons, Nat.pow_succ, Nat.mul_add, ← Nat.mul_assoc, Nat.mul_comm 256 (256 ^ _)]; omega
end Go.Proofs.Ytncooadaeifekaa.M

/- Helpers for the walks: exclusive or of the model's integers, bytes that lie behind an address, the checksum table's cells, memory that only grows. No condition but what each states. -/
namespace Go.Proofs.Ytncooadaeifekaa
open Go.RowKit
theorem hid {p : Prop} (h : p) : Hid p := h
theorem bits_xor_nat (k : IntKind) (n : Nat) (hk : k = .u8 ∧ n = 8 ∨ k = .u32 ∧ n = 32) (a b : Nat) (ha : a < 2 ^ n) (hb : b < 2 ^ n) :
    bits .xor k (a : Int) (b : Int) = ((a ^^^ b : Nat) : Int) := by
  have hx : a ^^^ b < 2 ^ n := Nat.xor_lt_two_pow ha hb
  rcases hk with ⟨rfl, rfl⟩ | ⟨rfl, rfl⟩
  · have h1 : (BitVec.ofInt 8 (a : Int)).toNat = a := by rw [BitVec.ofInt_natCast, BitVec.toNat_ofNat]; exact Nat.mod_eq_of_lt ha
    have h2 : (BitVec.ofInt 8 (b : Int)).toNat = b := by rw [BitVec.ofInt_natCast, BitVec.toNat_ofNat]; exact Nat.mod_eq_of_lt hb
    show IntKind.u8.wrap ((BitVec.ofInt 8 (a : Int) ^^^ BitVec.ofInt 8 (b : Int)).toNat : Int) = _
    rw [BitVec.toNat_xor, h1, h2, IntKind.wrap_u8]; omega
  · have h1 : (BitVec.ofInt 32 (a : Int)).toNat = a := by rw [BitVec.ofInt_natCast, BitVec.toNat_ofNat]; exact Nat.mod_eq_of_lt ha
    have h2 : (BitVec.ofInt 32 (b : Int)).toNat = b := by rw [BitVec.ofInt_natCast, BitVec.toNat_ofNat]; exact Nat.mod_eq_of_lt hb
    show IntKind.u32.wrap ((BitVec.ofInt 32 (a : Int) ^^^ BitVec.ofInt 32 (b : Int)).toNat : Int) = _
    rw [BitVec.toNat_xor, h1, h2, IntKind.wrap_u32]; omega
theorem xor8 (a b : Nat) (ha : a < 256) (hb : b < 256) : bits .xor .u8 (a : Int) (b : Int) = ((a ^^^ b : Nat) : Int) := bits_xor_nat .u8 8 (.inl ⟨rfl, rfl⟩) a b ha hb
theorem xor32 (a b : Nat) (ha : a < 4294967296) (hb : b < 4294967296) : bits .xor .u32 (a : Int) (b : Int) = ((a ^^^ b : Nat) : Int) := bits_xor_nat .u32 32 (.inr ⟨rfl, rfl⟩) a b ha hb
theorem xor8_lt (a b : Nat) (ha : a < 256) (hb : b < 256) : a ^^^ b < 256 := Nat.xor_lt_two_pow (n := 8) ha hb
theorem xor32_lt (a b : Nat) (ha : a < 4294967296) (hb : b < 4294967296) : a ^^^ b < 4294967296 := Nat.xor_lt_two_pow (n := 32) ha hb
/-- the list's number at a place -/
def nth (l : List Nat) (i : Nat) : Nat := l.getD i 0
theorem nth_lt (l : List Nat) (h : ∀ c ∈ l, c < 256) (i : Nat) : nth l i < 256 := by
  unfold nth
  by_cases hi : i < l.length
  · rw [List.getD, List.getElem?_eq_getElem hi]; exact h _ (List.getElem_mem hi)
  · rw [List.getD, List.getElem?_eq_none (by omega)]; decide
theorem take_nth (l : List Nat) (k : Nat) (h : k < l.length) : l.take (k + 1) = l.take k ++ [nth l k] := by
  rw [List.take_succ_eq_append_getElem h, nth, List.getD, List.getElem?_eq_getElem h]; rfl
/-- bytes that lie behind an address -/
def HasB (w : World) (a : Option Addr) (l : List Nat) : Prop :=
  (∀ c ∈ l, c < 256) ∧ (l = [] ∨ ∃ b off, a = some ⟨b, off, none⟩ ∧ ∀ i, i < l.length → w.cell? ⟨b, off + i, none⟩ = some (.int .u8 (nth l i)))
theorem HasB.lt {w : World} {a : Option Addr} {l : List Nat} (h : HasB w a l) : ∀ c ∈ l, c < 256 := h.1
theorem HasB.below {w w' : World} {a : Option Addr} {l : List Nat} (h : HasB w a l) (hb : Below w.heap.size w w') : HasB w' a l := by
  refine ⟨h.1, ?_⟩
  rcases h.2 with h0 | ⟨b, off, ha, hc⟩
  · exact .inl h0
  · refine .inr ⟨b, off, ha, fun i hi => ?_⟩
    have h1 := hc i hi
    rw [← h1]
    exact hb.cell (block_lt_of_cell (w := w) (a := ⟨b, off + i, none⟩) h1)
theorem HasB.cell {w : World} {a : Option Addr} {l : List Nat} (h : HasB w a l) (hne : 0 < l.length) :
    ∃ b off, a = some ⟨b, off, none⟩ ∧ ∀ i, i < l.length → w.cell? ⟨b, off + i, none⟩ = some (.int .u8 (nth l i)) := by
  rcases h.2 with h0 | h1
  · subst h0; simp at hne
  · exact h1
/-- the table's cells -/
def tbl : Array Value := (Array.range 256).map fun i => .int .u32 (M.tb i)
theorem tbl_at (i : Nat) (h : i < 256) : tbl[i]? = some (.int .u32 (M.tb i)) := by simp [tbl, h]
theorem tbl_size : tbl.size = 256 := by simp [tbl]
theorem below_blk {w w' : World} (h : Below w.heap.size w w') {b : Nat} {o : Obj} (hb : w.heap[b]? = some o) : w'.heap[b]? = some o := by
  rw [h.block b (lt_of_block hb)]; exact hb
theorem below_next {w w1 w2 : World} (h : Below w.heap.size w w1) (h2 : Below w1.heap.size w1 w2) : Below w.heap.size w w2 := h.trans (h2.mono h.size)
theorem bcell {W w1 : World} (hb : Below W.heap.size W w1) : (∀ b o, b < W.heap.size → w1.cell? ⟨b, o, none⟩ = W.cell? ⟨b, o, none⟩) ∧ (∀ b o, b < W.heap.size → w1.frozen? ⟨b, o, none⟩ = W.frozen? ⟨b, o, none⟩) :=
  ⟨fun b o h => hb.cell (p := ⟨b, o, none⟩) h, fun b o h => hb.frozen (p := ⟨b, o, none⟩) h⟩
theorem tbl_all : tbl.all (·.oneCell') = true := Array.all_eq_true_iff_forall_mem.2 fun v hv => by
  obtain ⟨i, hi, rfl⟩ := Array.mem_iff_getElem.1 hv
  simp [tbl, Value.oneCell']
/-- a whole value into the block that was made last -/
theorem wpList_store_new {P : Program} {ops : Array Oper} {rest : List Oper} {o : Oper} {a : Act} {w0 : World} {Q : Exit → Act → World → Prop} (hgd : o.guard = none) (hd : o.dst = none) (ty : TypeId) (x y : Operand) (ho : o.op = .store ty x y)
    (t : TypeId) (z cs : Array Value) (hx : a.eval x = .pointer (some ⟨w0.heap.size, 0, none⟩)) (hy : a.eval y = .agg cs) (hi : (P.info? ty).map (·.size) = some cs.size) (hz : z.size = cs.size) (h1 : cs.all (·.oneCell') = true)
    (h : wpList P ops Q rest a (w0.alloc (.cells cs t))) : wpList P ops Q (o :: rest) a (w0.alloc (.cells z t)) := by
  refine wpList_store_row hgd ty x y ho w0.heap.size cs hx hy t z (heap_alloc_new w0 _) hi hz h1 ?_
  rw [World.setRow_alloc_new, hd]
  exact h
theorem ret_int {k : IntKind} {a b : Int} (h : a = b) : Ending.returned (.int k a) = .returned (.int k b) := by rw [h]
end Go.Proofs.Ytncooadaeifekaa

/- Helpers for the walks: bytes that the call owns, appended to; slices of bytes cut; what a slice of bytes holds. No condition but what each states. -/
namespace Go.Proofs.Ytncooadaeifekaa
open Go.RowKit
def u8s (l : List Nat) : List Value := l.map fun (c : Nat) => Value.int .u8 c
theorem u8s_append (a b : List Nat) : u8s (a ++ b) = u8s a ++ u8s b := List.map_append
theorem u8s_length (l : List Nat) : (u8s l).length = l.length := by simp [u8s]
theorem u8s_at (l : List Nat) (i : Nat) (h : i < l.length) : (u8s l)[i]? = some (.int .u8 (nth l i)) := by simp [u8s, nth, h]
theorem u8s_one (l : List Nat) : ∀ u ∈ u8s l, u.oneCell' = true := fun u hu => by
  obtain ⟨c, _, rfl⟩ := List.mem_map.1 hu
  rfl
theorem info5 : (Try.prog.info? 5).map (fun i => (i.zero, i.size, i.bytes)) = some (some (.int .u8 0), 1, 1) := by kernel_rfl
/-- bytes of the call's own, from block B on -/
def OwnB (w : World) (B : Nat) (v : Value) (l : List Nat) : Prop := w.ownsRow B 5 1 v l.length (u8s l) ∧ ∀ c ∈ l, c < 256
theorem OwnB.slice {w : World} {B : Nat} {v : Value} {l : List Nat} (h : OwnB w B v l) : ∃ a cap, v = .slice a l.length cap ∧ l.length ≤ cap ∧ HasB w a l := by
  obtain ⟨⟨_, h2⟩, hlt⟩ := h
  rcases h2 with ⟨rfl, h0⟩ | ⟨g, cap, cur, rfl, _, hg, hn, _, _, htake⟩
  · have : l = [] := List.eq_nil_of_length_eq_zero h0
    subst this
    exact ⟨none, 0, rfl, by simp, hlt, .inl rfl⟩
  · refine ⟨some ⟨g, 0, none⟩, cap, rfl, hn, hlt, .inr ⟨g, 0, rfl, fun i hi => ?_⟩⟩
    rw [cell_of_row w g _ cur 5 (0, 0) hg]
    have h1 := u8s_at l i hi
    rw [← htake, List.getElem?_take, if_pos (by omega)] at h1
    simpa using h1
theorem run_append_bytes (w : World) (B : Nat) (v : Value) (l1 l2 : List Nat) (ty : TypeId) (hown : OwnB w B v l1) (a : Option Addr) (c : Nat) (h2 : HasB w a l2) (hn : l1.length + l2.length ≤ 1000000) (hB : B ≤ w.heap.size) :
    ∃ v' w', (Builtin.append_ #[28, 28] ty #[v, .slice a l2.length c]).run Try.prog w = .ok v' w' ∧ OwnB w' B v' (l1 ++ l2) ∧ w.grownBy w' v.ownBlock := by
  obtain ⟨i0, hi, hz0, hz1, hz2⟩ := info_parts info5
  have hlt : ∀ c ∈ l1 ++ l2, c < 256 := fun c hc => by
    rcases List.mem_append.1 hc with h | h
    · exact hown.2 c h
    · exact h2.1 c h
  by_cases h0 : l2 = []
  · subst h0
    refine ⟨v, w, ?_, by simpa using hown, ⟨rfl, rfl, rfl, Nat.le_refl _, fun _ _ _ => rfl⟩⟩
    rcases hown.1.2 with ⟨rfl, h0⟩ | ⟨g, cap, cur, rfl, _, _, hnc, _⟩
    · cases a <;> simp [Builtin.append_, run_underlying Try.underlying28, sizeOf, typeInfo, hi, Builtin.lenOf, Builtin.firstCells, loadCells, loadCellsFrom]
    · cases a <;> simp [Builtin.append_, run_underlying Try.underlying28, sizeOf, typeInfo, hi, Builtin.lenOf, Builtin.firstCells, hnc, storeCells, loadCells, loadCellsFrom]
  · obtain ⟨b, off, rfl, hc⟩ := h2.cell (by cases l2 with | nil => exact absurd rfl h0 | cons => simp)
    obtain ⟨v', w', hr, ho, hg, _⟩ := run_append_own (P := Try.prog) w B 28 ty 5 i0 (.int .u8 0) 1 1 Try.underlying28 hi hz0 hz1 hz2 rfl (by decide) v l1.length (u8s l1) hown.1 ⟨b, off, none⟩ l2.length c (u8s l2) (by simp [u8s])
      (fun j u hu => by
        have hj : j < l2.length := by have := (List.getElem?_eq_some_iff.1 hu).1; simpa [u8s] using this
        rw [u8s_at l2 j hj] at hu
        have hadd : (⟨b, off, none⟩ : Addr).add j = ⟨b, off + j, none⟩ := by unfold Addr.add; split <;> simp_all
        rw [hadd, hc j hj]; exact hu) (u8s_one l2) (by unfold maxLen; omega) (by omega) hB
    exact ⟨v', w', hr, ⟨by rw [List.length_append, u8s_append]; exact ho, hlt⟩, hg⟩
theorem wpList_append_bytes {ops : Array Oper} {rest : List Oper} {o : Oper} {a : Act} {w : World} {Q : Exit → Act → World → Prop} (hgd : o.guard = none) (s x : Operand)
    (ho : o.op = .call { callee := .builtin .append, args := #[s, x], argTypes := #[28, 28] }) (B : Nat) (v : Value) (l1 l2 : List Nat) (hs : a.eval s = v) (hown : OwnB w B v l1)
    (ad : Option Addr) (c : Nat) (hx : a.eval x = .slice ad l2.length c) (h2 : HasB w ad l2) (hn : l1.length + l2.length ≤ 1000000) (hB : B ≤ w.heap.size)
    (h : ∀ v' w', OwnB w' B v' (l1 ++ l2) → w.grownBy w' v.ownBlock → wpList Try.prog ops Q rest (a.put o.dst v') w') : wpList Try.prog ops Q (o :: rest) a w := by
  obtain ⟨v', w', hr, h3, h4⟩ := run_append_bytes w B v l1 l2 o.type hown ad c h2 hn hB
  refine wpList_plain hgd fun _ hK => ?_
  unfold Oper.wp execOp
  simp only [ho, resolve, invoke, builtin, Sem.run_bind, Sem.run_pure, Result.andThen_ok, List.map_toArray, List.map_cons, List.map_nil, hs, hx, hr]
  exact hK _ _ (h v' w' h3 h4)
/-- an empty literal -/
theorem ownB_new (w : World) (B : Nat) (hB : B ≤ w.heap.size) : OwnB (w.alloc (.cells #[] 5)) B (.slice (some ⟨w.heap.size, 0, none⟩) 0 0) [] :=
  ⟨World.ownsRow_lit w #[] 0 hB (by unfold maxLen; omega) rfl, by simp⟩
theorem ownB_nil (w : World) (B : Nat) : OwnB w B (.slice none 0 0) [] := ⟨World.ownsRow_nil w B 5 1, by simp⟩
theorem OwnB.mono {w w' : World} {B : Nat} {v : Value} {l : List Nat} (h : OwnB w B v l) (hb : Below w.heap.size w w') : OwnB w' B v l := by
  refine ⟨?_, h.2⟩
  obtain ⟨h1, h2⟩ := h.1
  refine ⟨h1, ?_⟩
  rcases h2 with h2 | ⟨g, cap, cur, hv, hg, hh, r⟩
  · exact .inl h2
  · exact .inr ⟨g, cap, cur, hv, hg, below_blk hb hh, r⟩
theorem OwnB.below {w w' : World} {B : Nat} {v : Value} {l : List Nat} (h : OwnB w B v l) (hg : w.grownBy w' v.ownBlock) (hB : B ≤ w.heap.size) : Below B w w' :=
  (Below.refl B w).grown hg hB fun k hk => (h.1.lt k hk).1
/-! ### cuts -/
theorem HasB.take {w : World} {a : Option Addr} {l : List Nat} (h : HasB w a l) (k : Nat) : HasB w a (l.take k) := by
  refine ⟨fun c hc => h.1 c (List.mem_of_mem_take hc), ?_⟩
  rcases h.2 with h0 | ⟨b, off, ha, hc⟩
  · left; rw [h0]; simp
  · by_cases hk : l.take k = []
    · exact .inl hk
    · refine .inr ⟨b, off, ha, fun i hi => ?_⟩
      have hi' : i < k ∧ i < l.length := by simp at hi; omega
      rw [hc i hi'.2]
      simp [nth, hi'.1]
def cutAt (a : Option Addr) (cap k : Nat) : Option Addr := if cap = k then a else a.map (·.add k)
theorem HasB.drop {w : World} {a : Option Addr} {l : List Nat} (h : HasB w a l) (k cap : Nat) (hc : l.length ≤ cap) : HasB w (cutAt a cap k) (l.drop k) := by
  refine ⟨fun c hc => h.1 c (List.mem_of_mem_drop hc), ?_⟩
  rcases h.2 with h0 | ⟨b, off, rfl, hcell⟩
  · left; rw [h0]; simp
  · by_cases hk : l.length ≤ k
    · left; exact List.drop_eq_nil_of_le hk
    · right
      refine ⟨b, off + k, ?_, fun i hi => ?_⟩
      · unfold cutAt
        rw [if_neg (by omega)]
        simp only [Option.map_some, Option.some.injEq]
        unfold Addr.add; split <;> simp_all
      · have hi' : i < l.length - k := by simpa using hi
        have := hcell (k + i) (by omega)
        rw [Nat.add_assoc, this]
        simp [nth]
end Go.Proofs.Ytncooadaeifekaa

/- Helpers for the walks: a local variable of several cells that is made and filled, a parameter that is laid into a variable: the world behind them under a name of its own. No condition but what each states. -/
namespace Go.Proofs.Ytncooadaeifekaa
open Go.RowKit
/-- a type's row in the table: so many cells, its zero value too -/
def TyRow (P : Program) (t : TypeId) (n : Nat) : Prop := (P.info? t).map (fun i => (i.zero.map (·.cells.size), i.size)) = some (some n, n)
theorem TyRow.info {P : Program} {t : TypeId} {n : Nat} (h : TyRow P t n) : ∃ i z, P.info? t = some i ∧ i.zero = some z ∧ z.cells.size = n ∧ i.size = n := by
  unfold TyRow at h
  cases hi : P.info? t with
  | none => simp [hi] at h
  | some i =>
    cases hz : i.zero with
    | none => simp [hi, hz] at h
    | some z => simp [hi, hz] at h; exact ⟨i, z, rfl, hz, h.1, h.2⟩
theorem TyRow.size {P : Program} {t : TypeId} {n : Nat} (h : TyRow P t n) : (P.info? t).map (·.size) = some n := by
  obtain ⟨i, z, hi, _, _, hs⟩ := h.info
  rw [hi]; simp [hs]
section
variable {P : Program} {ops : Array Oper} {rest : List Oper} {a : Act} {w : World} {Q : Exit → Act → World → Prop}
/-- 'x := v' of an array or struct: a new variable, and what it holds -/
theorem wpList_local {o1 o2 : Oper} (d : Tmp) (hd : o1.dst = some d) (hg1 : o1.guard = none) (hg2 : o2.guard = none) (hd2 : o2.dst = none) (t : TypeId) (h1 : o1.op = .alloc t) (y : Operand) (h2 : o2.op = .store t (.tmp d) y)
    (cs : Array Value) (hy : (a.put (some d) (.pointer (some ⟨w.heap.size, 0, none⟩))).eval y = .agg cs) (hroom : d < a.tmps.size) (ht : TyRow P t cs.size) (hone : cs.all (·.oneCell') = true)
    (h : ∀ (W : World) (N : Nat), w.heap.size ≤ N → N < W.heap.size → W.heap[N]? = some (.cells cs t (0, 0)) → Below w.heap.size w W → wpList P ops Q rest (a.put (some d) (.pointer (some ⟨N, 0, none⟩))) W) :
    wpList P ops Q (o1 :: o2 :: rest) a w := by
  obtain ⟨i, z, hi, hz, hzs, hs⟩ := ht.info
  have hres := h (w.alloc (.cells cs t)) w.heap.size (Nat.le_refl _) (by simp) (heap_alloc_new w _) ((Below.refl _ _).alloc (Nat.le_refl _) _)
  refine wpList_plain hg1 fun K hK => ?_
  unfold Oper.wp execOp
  have hal : (Instr.alloc t true (.tuple #[])).run P w = .ok (.pointer (some ⟨w.heap.size, 0, none⟩)) (w.alloc (.cells z.cells t)) := by
    simp [Instr.alloc, zeroValue, typeInfo, hi, hz, newVar, newRow]
  simp only [h1, Sem.run_bind, hal, Result.andThen_ok]
  show K (a.put o1.dst _) _
  rw [hd]
  refine hK _ _ ?_
  refine wpList_store_new hg2 hd2 t (.tmp d) y h2 t z.cells cs ?_ hy (ht.size) hzs hone hres
  simp [Act.eval, Act.put, hroom]
/-- a parameter that is laid into a variable -/
theorem wpList_boxed {o : Oper} (d : Tmp) (hd : o.dst = some d) (hg : o.guard = none) (t : TypeId) (x : Operand) (ho : o.op = .box t x) (cs : Array Value) (hx : a.eval x = .agg cs)
    (h : ∀ (W : World) (N : Nat), w.heap.size ≤ N → N < W.heap.size → W.heap[N]? = some (.cells cs t (0, 0)) → Below w.heap.size w W → wpList P ops Q rest (a.put (some d) (.pointer (some ⟨N, 0, none⟩))) W) :
    wpList P ops Q (o :: rest) a w := by
  have hres := h (w.alloc (.cells cs t)) w.heap.size (Nat.le_refl _) (by simp) (heap_alloc_new w _) ((Below.refl _ _).alloc (Nat.le_refl _) _)
  refine wpList_plain hg fun K hK => ?_
  unfold Oper.wp execOp
  have hal : (Instr.box t (.agg cs)).run P w = .ok (.pointer (some ⟨w.heap.size, 0, none⟩)) (w.alloc (.cells cs t)) := by
    simp [Instr.box, newVar, newRow, Value.cells]
  simp only [ho, hx, Sem.run_bind, hal, Result.andThen_ok]
  show K (a.put o.dst _) _
  rw [hd]
  exact hK _ _ hres
/-- a variable that is made, its zero value in it -/
theorem wpList_zeroed {o1 : Oper} (d : Tmp) (hd : o1.dst = some d) (hg1 : o1.guard = none) (t : TypeId) (h1 : o1.op = .alloc t) (z : Array Value) (hz : (P.info? t).bind (fun i => i.zero.map (·.cells)) = some z)
    (h : ∀ (W : World) (N : Nat), w.heap.size ≤ N → N < W.heap.size → W.heap[N]? = some (.cells z t (0, 0)) → Below w.heap.size w W → wpList P ops Q rest (a.put (some d) (.pointer (some ⟨N, 0, none⟩))) W) :
    wpList P ops Q (o1 :: rest) a w := by
  have hres := h (w.alloc (.cells z t)) w.heap.size (Nat.le_refl _) (by simp) (heap_alloc_new w _) ((Below.refl _ _).alloc (Nat.le_refl _) _)
  refine wpList_plain hg1 fun K hK => ?_
  unfold Oper.wp execOp
  cases hi : P.info? t with
  | none => simp [hi] at hz
  | some i =>
    cases hzz : i.zero with
    | none => simp [hi, hzz] at hz
    | some zz =>
      have hzc : zz.cells = z := by simpa [hi, hzz] using hz
      have hal : (Instr.alloc t true (.tuple #[])).run P w = .ok (.pointer (some ⟨w.heap.size, 0, none⟩)) (w.alloc (.cells z t)) := by
        simp [Instr.alloc, zeroValue, typeInfo, hi, hzz, newVar, newRow, hzc]
      simp only [h1, Sem.run_bind, hal, Result.andThen_ok]
      show K (a.put o1.dst _) _
      rw [hd]
      exact hK _ _ hres
/-- an empty literal of bytes, under a name of its own -/
theorem wpList_empty {o : Oper} (d : Tmp) (hd : o.dst = some d) (hg : o.guard = none) (ho : o.op = .buildSlice 28 0 #[])
    (h : ∀ (W : World) (v : Value), OwnB W w.heap.size v [] → Below w.heap.size w W → wpList Try.prog ops Q rest (a.put (some d) v) W) :
    wpList Try.prog ops Q (o :: rest) a w := by
  have hres := h (w.alloc (.cells #[] 5)) _ (ownB_new w w.heap.size (Nat.le_refl _)) ((Below.refl _ _).alloc (Nat.le_refl _) _)
  refine wpList_plain hg fun K hK => ?_
  unfold Oper.wp execOp
  have hb : (Instr.buildSlice 28 0 #[]).run Try.prog w = .ok (.slice (some ⟨w.heap.size, 0, none⟩) 0 0) (w.alloc (.cells #[] 5)) := by
    obtain ⟨i0, hi, hz0, hz1, hz2⟩ := info_parts info5
    simp [Instr.buildSlice, run_underlying Try.underlying28, sizeOf, typeInfo, hi, Instr.fill, newRow, Array.range_zero']
  simp only [ho, Sem.run_bind, List.map_toArray, List.map_nil, hb, Result.andThen_ok]
  show K (a.put o.dst _) _
  rw [hd]
  exact hK _ _ hres
/-- 'append' onto bytes of the call's own -/
theorem wpList_append_at {o : Oper} (d : Tmp) (hd : o.dst = some d) (hgd : o.guard = none) (s x : Operand)
    (ho : o.op = .call { callee := .builtin .append, args := #[s, x], argTypes := #[28, 28] }) (B : Nat) (v : Value) (l1 l2 l3 : List Nat) (h3 : l1 ++ l2 = l3) (hs : a.eval s = v) (hown : OwnB w B v l1)
    (ad : Option Addr) (c : Nat) (hx : a.eval x = .slice ad l2.length c) (h2 : HasB w ad l2) (hn : l3.length ≤ 1000000) (hB : B ≤ w.heap.size)
    (h : ∀ av cv w', OwnB w' B (.slice av l3.length cv) l3 → l3.length ≤ cv → HasB w' av l3 → Below B w w' → wpList Try.prog ops Q rest (a.put (some d) (.slice av l3.length cv)) w') : wpList Try.prog ops Q (o :: rest) a w := by
  subst h3
  refine wpList_append_bytes hgd s x ho B v l1 l2 hs hown ad c hx h2 (by simpa using hn) hB fun v' w' h3 h4 => ?_
  obtain ⟨av, cv, rfl, hc, hb⟩ := h3.slice
  rw [hd]
  exact h av cv w' h3 hc hb (hown.below h4 hB)
theorem below_blkB {w w' : World} {B b : Nat} {o : Obj} (h : Below B w w') (hb : b < B) (ho : w.heap[b]? = some o) : w'.heap[b]? = some o := by
  rw [h.block b hb]; exact ho
theorem below_nextB {w w1 w2 : World} {B : Nat} (h : Below w.heap.size w w1) (h2 : Below B w1 w2) (hB : w.heap.size ≤ B) : Below w.heap.size w w2 := h.trans (h2.mono hB)
end
theorem ty25 : TyRow Try.prog 25 tbl.size := by rw [tbl_size]; unfold TyRow; kernel_rfl
end Go.Proofs.Ytncooadaeifekaa

/- Helpers for the walks: bytes that the call made and stores into one by one. No condition but what each states. -/
namespace Go.Proofs.Ytncooadaeifekaa
open Go.RowKit
/-- block N holds just these bytes -/
def RowB (w : World) (N : Nat) (l : List Nat) : Prop := w.heap[N]? = some (.cells (u8s l).toArray 5 (0, 0))
theorem RowB.has {w : World} {N : Nat} {l : List Nat} (h : RowB w N l) (hl : ∀ c ∈ l, c < 256) : HasB w (some ⟨N, 0, none⟩) l := by
  refine ⟨hl, .inr ⟨N, 0, rfl, fun i hi => ?_⟩⟩
  rw [cell_of_row _ _ _ _ _ _ h]
  have := u8s_at l i hi
  simpa using this
theorem RowB.cell {w : World} {N : Nat} {l : List Nat} (h : RowB w N l) (i : Nat) (hi : i < l.length) : w.cell? ⟨N, i, none⟩ = some (.int .u8 (nth l i)) := by
  rw [cell_of_row _ _ _ _ _ _ h]
  have := u8s_at l i hi
  simpa using this
theorem RowB.free {w : World} {N : Nat} {l : List Nat} (h : RowB w N l) (i : Nat) : w.frozen? ⟨N, i, none⟩ = false := frozen_of_row w N i _ 5 h
theorem RowB.set {w : World} {N : Nat} {l : List Nat} (h : RowB w N l) (i v : Nat) : RowB (w.setCell ⟨N, i, none⟩ (.int .u8 v)) N (l.set i v) := by
  unfold RowB
  rw [heap_setCell_same w N i _ 5 _ h]
  congr 2
  apply Array.ext'
  simp [u8s, List.map_set]
theorem RowB.below {w w' : World} {N : Nat} {l : List Nat} (h : RowB w N l) (hb : Below w.heap.size w w') : RowB w' N l := below_blk hb h
theorem RowB.drew {w : World} {N : Nat} {l : List Nat} (h : RowB w N l) : RowB w.drew N l := h
theorem nth_set (l : List Nat) (i j v : Nat) (hi : i < l.length) : nth (l.set i v) j = if j = i then v else nth l j := by
  unfold nth
  by_cases h : j = i
  · subst h; simp [hi]
  · rw [if_neg h]; simp only [List.getD]; rw [List.getElem?_set_ne (by omega)]
theorem nth_eq (l m : List Nat) (hl : l.length = m.length) (h : ∀ i, i < l.length → nth l i = nth m i) : l = m := by
  apply List.ext_getElem hl
  intro i h1 h2
  have := h i h1
  simpa [nth, h1, h2] using this
theorem set_lt {l : List Nat} (h : ∀ c ∈ l, c < 256) (i v : Nat) (hv : v < 256) : ∀ c ∈ l.set i v, c < 256 := fun c hc => by
  rcases List.mem_or_eq_of_mem_set hc with h1 | h1
  · exact h c h1
  · omega
theorem info5' : ∃ i, Try.prog.info? 5 = some i ∧ i.zero = some (.int .u8 0) ∧ i.size = 1 ∧ i.bytes = 1 := by
  obtain ⟨i0, hi, hz0, hz1, hz2⟩ := info_parts info5
  exact ⟨i0, hi, hz0, hz1, hz2⟩
theorem run_make_bytes (w : World) (m : Nat) (hm : m ≤ 1000000) : (Instr.makeSlice 28 (.int .i64 m) (.int .i64 m)).run Try.prog w = .ok (.slice (some ⟨w.heap.size, 0, none⟩) m m) (w.alloc (.cells (u8s (List.replicate m 0)).toArray 5)) := by
  obtain ⟨i0, hi, hz0, hz1, hz2⟩ := info5'
  have hr := run_make (P := Try.prog) w 28 5 i0 (.int .u8 0) Try.underlying28 hi hz0 .i64 .i64 m m (by omega) (by omega) (by rw [hz2]; omega) (by omega)
  rw [hr]
  have hcs : madeCells (Value.int .u8 0).cells (m * 1) = (u8s (List.replicate m 0)).toArray := by
    apply Array.ext'
    rw [Nat.mul_one, show (Value.int .u8 0).cells = #[Value.int .u8 0] from rfl, toList_madeCells_one]
    simp [u8s]
  rw [Int.toNat_natCast, hz1, hcs]
theorem wpList_make_bytes {ops : Array Oper} {rest : List Oper} {a : Act} {w : World} {Q : Exit → Act → World → Prop} {o : Oper} (d : Tmp) (hd : o.dst = some d) (hg : o.guard = none) (x : Operand) (ho : o.op = .makeSlice 28 x x) (m : Nat) (hx : a.eval x = .int .i64 m) (hm : m ≤ 1000000)
    (h : ∀ (W : World) (N : Nat), w.heap.size ≤ N → N < W.heap.size → RowB W N (List.replicate m 0) → Below w.heap.size w W → wpList Try.prog ops Q rest (a.put (some d) (.slice (some ⟨N, 0, none⟩) m m)) W) :
    wpList Try.prog ops Q (o :: rest) a w := by
  have hres := h (w.alloc (.cells (u8s (List.replicate m 0)).toArray 5)) w.heap.size (Nat.le_refl _) (by simp) (heap_alloc_new w _) ((Below.refl _ _).alloc (Nat.le_refl _) _)
  refine wpList_plain hg fun K hK => ?_
  unfold Oper.wp execOp
  simp only [ho, hx, Sem.run_bind, run_make_bytes w m hm, Result.andThen_ok]
  show K (a.put o.dst _) _
  rw [hd]
  exact hK _ _ hres
end Go.Proofs.Ytncooadaeifekaa

/- Helpers for the walks: bytes of the call's own that are stored into; one bit as a byte. No condition but what each states. -/
namespace Go.Proofs.Ytncooadaeifekaa
open Go.RowKit
theorem OwnB.store {w : World} {B : Nat} {av : Option Addr} {cv : Nat} {l : List Nat} (h : OwnB w B (.slice av l.length cv) l) (hne : 0 < l.length) :
    ∃ g, av = some ⟨g, 0, none⟩ ∧ B ≤ g ∧ g < w.heap.size ∧ (∀ i, i < l.length → w.cell? ⟨g, i, none⟩ = some (.int .u8 (nth l i))) ∧ (∀ i, w.frozen? ⟨g, i, none⟩ = false) ∧
      ∀ i x, x < 256 → OwnB (w.setCell ⟨g, i, none⟩ (.int .u8 (x : Nat))) B (.slice av l.length cv) (l.set i x) := by
  have h' := h.1
  rcases h.1.2 with ⟨h1, h0⟩ | ⟨g, cap, cur, hv, hb, hg, hn, hm, hs, htake⟩
  · omega
  · simp only [Value.slice.injEq, true_and] at hv
    obtain ⟨rfl, rfl⟩ := hv
    refine ⟨g, rfl, hb, (Array.getElem?_eq_some_iff.1 hg).1, fun i hi => ?_, fun i => h'.frozenAt i, fun i x hx => ⟨?_, set_lt h.2 i x hx⟩⟩
    · rw [h'.cellAt i (by omega)]
      exact u8s_at l i hi
    · have := (h'.stored i (.int .u8 x)).1
      rw [List.length_set]
      have e : u8s (l.set i x) = (u8s l).set i (.int .u8 x) := by simp [u8s, List.map_set]
      rw [e]
      exact this
theorem OwnB.drew {w : World} {B : Nat} {v : Value} {l : List Nat} (h : OwnB w B v l) : OwnB w.drew B v l := h
end Go.Proofs.Ytncooadaeifekaa

/- Helpers for the walks: of the world nothing has turned but some named blocks. No condition but what each states. -/
namespace Go.Proofs.Ytncooadaeifekaa
open Go.RowKit
/-- of what was there nothing has turned but the blocks of S -/
structure Turned (S : Nat → Prop) (w w' : World) : Prop where
  os : w'.os = w.os
  tape : w'.tape = w.tape
  output : w'.output = w.output
  size : w.heap.size ≤ w'.heap.size
  block : ∀ k, k < w.heap.size → ¬ S k → w'.heap[k]? = w.heap[k]?
theorem Turned.refl (S : Nat → Prop) (w : World) : Turned S w w := ⟨rfl, rfl, rfl, Nat.le_refl _, fun _ _ _ => rfl⟩
theorem Turned.mono {S T : Nat → Prop} {w w' : World} (h : Turned S w w') (hT : ∀ k, k < w.heap.size → S k → T k) : Turned T w w' := ⟨h.os, h.tape, h.output, h.size, fun k hk hn => h.block k hk fun hs => hn (hT k hk hs)⟩
theorem Turned.trans {S T : Nat → Prop} {a b c : World} (h : Turned S a b) (k : Turned T b c) (hT : ∀ i, T i → S i ∨ a.heap.size ≤ i) : Turned S a c :=
  ⟨k.os.trans h.os, k.tape.trans h.tape, k.output.trans h.output, Nat.le_trans h.size k.size, fun i hi hn => (k.block i (Nat.lt_of_lt_of_le hi h.size) fun ht => by rcases hT i ht with h1 | h1; exact hn h1; omega).trans (h.block i hi hn)⟩
theorem Turned.ofBelow {S : Nat → Prop} {w w' : World} (h : Below w.heap.size w w') : Turned S w w' := ⟨h.os, h.tape, h.output, h.size, fun k hk _ => h.block k hk⟩
theorem Turned.ofGrown {w w' : World} {row : Option Nat} (h : w.grownBy w' row) : Turned (fun k => row = some k) w w' := ⟨h.os, h.tape, h.output, h.size, fun k hk hn => h.block k hk fun e => hn e.symm⟩
theorem Turned.below {S : Nat → Prop} {w w' : World} (h : Turned S w w') (B : Nat) (hB : B ≤ w.heap.size) (hS : ∀ k, S k → B ≤ k) : Below B w w' :=
  ⟨h.os, h.tape, h.output, h.size, fun k hk => h.block k (by omega) fun hs => by have := hS k hs; omega⟩
theorem Turned.blk {S : Nat → Prop} {w w' : World} (h : Turned S w w') {b : Nat} {o : Obj} (ho : w.heap[b]? = some o) (hb : ¬ S b) : w'.heap[b]? = some o := by
  rw [h.block b (lt_of_block ho) hb]; exact ho
theorem Turned.setCell {S : Nat → Prop} {w w' : World} (h : Turned S w w') {p : Addr} (hp : S p.block ∨ w.heap.size ≤ p.block) (u : Value) : Turned S w (w'.setCell p u) :=
  h.trans (T := fun k => k = p.block) ⟨rfl, rfl, rfl, by simp [World.setCell], fun k _ hn => Below.heap_setCell _ _ _ _ hn⟩ fun i hi => by subst hi; exact hp
theorem Turned.has {S : Nat → Prop} {w w' : World} (h : Turned S w w') {a : Option Addr} {l : List Nat} (hl : HasB w a l) (hS : ∀ p, a = some p → ¬ S p.block) : HasB w' a l := by
  refine ⟨hl.1, ?_⟩
  rcases hl.2 with h0 | ⟨b, off, ha, hc⟩
  · exact .inl h0
  · refine .inr ⟨b, off, ha, fun i hi => ?_⟩
    have h1 := hc i hi
    rw [← h1]
    exact World.cell?_of_block (w := w) (h.block b (block_lt_of_cell (w := w) (a := ⟨b, off + i, none⟩) h1) (hS _ ha))
theorem Turned.own {S : Nat → Prop} {w w' : World} (h : Turned S w w') {B : Nat} {v : Value} {l : List Nat} (ho : OwnB w B v l) (hS : ∀ k, v.ownBlock = some k → ¬ S k) : OwnB w' B v l := by
  refine ⟨?_, ho.2⟩
  obtain ⟨h1, h2⟩ := ho.1
  refine ⟨h1, ?_⟩
  rcases h2 with h2 | ⟨g, cap, cur, hv, hg, hh, r⟩
  · exact .inl h2
  · exact .inr ⟨g, cap, cur, hv, hg, h.blk hh (hS g (by subst hv; rfl)), r⟩
theorem OwnB.ownLt {w : World} {B : Nat} {v : Value} {l : List Nat} (h : OwnB w B v l) : ∀ k, v.ownBlock = some k → B ≤ k ∧ k < w.heap.size := h.1.lt
theorem OwnB.weak {w : World} {B C : Nat} {v : Value} {l : List Nat} (h : OwnB w B v l) (hC : C ≤ B) : OwnB w C v l := by
  refine ⟨?_, h.2⟩
  obtain ⟨h1, h2⟩ := h.1
  refine ⟨h1, ?_⟩
  rcases h2 with h2 | ⟨g, cap, cur, hv, hg, r⟩
  · exact .inl h2
  · exact .inr ⟨g, cap, cur, hv, by omega, r⟩
/-- 'append': where the bytes lie behind it -/
theorem run_append_bytes_loc (w : World) (B : Nat) (v : Value) (l1 l2 : List Nat) (ty : TypeId) (hown : OwnB w B v l1) (a : Option Addr) (c : Nat) (h2 : HasB w a l2) (hn : l1.length + l2.length ≤ 1000000) (hB : B ≤ w.heap.size) :
    ∃ v' w', (Builtin.append_ #[28, 28] ty #[v, .slice a l2.length c]).run Try.prog w = .ok v' w' ∧ OwnB w' B v' (l1 ++ l2) ∧ Turned (fun k => v.ownBlock = some k) w w' ∧ (∀ k, v'.ownBlock = some k → v.ownBlock = some k ∨ w.heap.size ≤ k) := by
  obtain ⟨i0, hi, hz0, hz1, hz2⟩ := info_parts info5
  have hlt : ∀ c ∈ l1 ++ l2, c < 256 := fun c hc => by
    rcases List.mem_append.1 hc with h | h
    · exact hown.2 c h
    · exact h2.1 c h
  by_cases h0 : l2 = []
  · subst h0
    refine ⟨v, w, ?_, by simpa using hown, Turned.refl _ _, fun k hk => .inl hk⟩
    rcases hown.1.2 with ⟨rfl, h0⟩ | ⟨g, cap, cur, rfl, _, _, hnc, _⟩
    · cases a <;> simp [Builtin.append_, run_underlying Try.underlying28, sizeOf, typeInfo, hi, Builtin.lenOf, Builtin.firstCells, loadCells, loadCellsFrom]
    · cases a <;> simp [Builtin.append_, run_underlying Try.underlying28, sizeOf, typeInfo, hi, Builtin.lenOf, Builtin.firstCells, hnc, storeCells, loadCells, loadCellsFrom]
  · obtain ⟨b, off, rfl, hc⟩ := h2.cell (by cases l2 with | nil => exact absurd rfl h0 | cons => simp)
    obtain ⟨v', w', hr, ho, hg, _, hat⟩ := run_append_own_at (P := Try.prog) w B 28 ty 5 i0 (.int .u8 0) 1 1 Try.underlying28 hi hz0 hz1 hz2 rfl (by decide) v l1.length (u8s l1) hown.1 ⟨b, off, none⟩ l2.length c (u8s l2) (by simp [u8s])
      (fun j u hu => by
        have hj : j < l2.length := by have := (List.getElem?_eq_some_iff.1 hu).1; simpa [u8s] using this
        rw [u8s_at l2 j hj] at hu
        have hadd : (⟨b, off, none⟩ : Addr).add j = ⟨b, off + j, none⟩ := by unfold Addr.add; split <;> simp_all
        rw [hadd, hc j hj]; exact hu) (u8s_one l2) (by unfold maxLen; omega) (by omega) hB
    refine ⟨v', w', hr, ⟨by rw [List.length_append, u8s_append]; exact ho, hlt⟩, Turned.ofGrown hg, fun k hk => ?_⟩
    rcases hat with h | h
    · left; rw [← h]; exact hk
    · right; rw [h] at hk; simp at hk; omega
theorem wpList_append_loc {ops : Array Oper} {rest : List Oper} {a : Act} {w : World} {Q : Exit → Act → World → Prop} {o : Oper} (d : Tmp) (hd : o.dst = some d) (hgd : o.guard = none) (s x : Operand)
    (ho : o.op = .call { callee := .builtin .append, args := #[s, x], argTypes := #[28, 28] }) (B : Nat) (v : Value) (l1 l2 l3 : List Nat) (h3 : l1 ++ l2 = l3) (hs : a.eval s = v) (hown : OwnB w B v l1)
    (ad : Option Addr) (c : Nat) (hx : a.eval x = .slice ad l2.length c) (h2 : HasB w ad l2) (hn : l3.length ≤ 1000000) (hB : B ≤ w.heap.size)
    (h : ∀ av cv w', OwnB w' B (.slice av l3.length cv) l3 → l3.length ≤ cv → HasB w' av l3 → Turned (fun k => v.ownBlock = some k) w w' → (∀ k, Value.ownBlock (.slice av l3.length cv) = some k → v.ownBlock = some k ∨ w.heap.size ≤ k) → wpList Try.prog ops Q rest (a.put (some d) (.slice av l3.length cv)) w') : wpList Try.prog ops Q (o :: rest) a w := by
  subst h3
  obtain ⟨v', w', hr, h4, h5, h6⟩ := run_append_bytes_loc w B v l1 l2 o.type hown ad c h2 (by simpa using hn) hB
  refine wpList_plain hgd fun _ hK => ?_
  unfold Oper.wp execOp
  simp only [ho, resolve, invoke, builtin, Sem.run_bind, Sem.run_pure, Result.andThen_ok, List.map_toArray, List.map_cons, List.map_nil, hs, hx, hr]
  obtain ⟨av, cv, rfl, hc, hb⟩ := h4.slice
  rename_i K
  show K (a.put o.dst _) _
  rw [hd]
  exact hK _ _ (h av cv w' h4 hc hb h5 h6)
/-- 'append' of one byte that lies in a new block -/
theorem hasB_one (w : World) (c : Nat) (hc : c < 256) : HasB (w.alloc (.cells #[.int .u8 (c : Nat)] 5)) (some ⟨w.heap.size, 0, none⟩) [c] := by
  refine ⟨by simpa using hc, .inr ⟨w.heap.size, 0, rfl, fun i hi => ?_⟩⟩
  simp at hi; subst hi
  rw [cell_of_row _ _ _ _ _ _ (heap_alloc_new w _)]
  simp [nth]
end Go.Proofs.Ytncooadaeifekaa

/- Walks of the checksum package: Step, over, Raw, Sum, Multiple answer as the plain laws' functions do, for up to a million bytes; memory only grows. -/
namespace Go.Proofs.Ytncooadaeifekaa
open Go.RowKit
set_option maxRecDepth 100000 in
theorem step_calls (r c : Nat) (hr : r < 4294967296) (hc : c < 256) (w : World) :
    Calls Try.prog 31 #[.agg tbl, .int .u32 r, .int .u8 c] w fun e w' => e = .returned (.int .u32 (M.bst r c)) ∧ Below w.heap.size w w' := by
  have hx := xor8_lt (r % 256) c (by omega) hc
  have e1 : bits .xor .u8 ((r : Int) % 256) (c : Int) = ((r % 256 ^^^ c : Nat) : Int) := xor8 (r % 256) c (by omega) hc
  have e2 := tbl_at _ hx
  have e3 : bits .xor .u32 ((r : Int) / 256) (M.tb (r % 256 ^^^ c) : Int) = (M.bst r c : Int) := by
    rw [M.bst_eq]; exact xor32 (r / 256) _ (by omega) (M.tb_lt _ hx)
  go_enter Try.func31, Try.ntmps31
  go_wp2
  go_ret
  exact ⟨rfl, (Below.refl _ _).alloc (Nat.le_refl _) _⟩
theorem over_take (r : Nat) (l : List Nat) (k : Nat) (h : k < l.length) : M.over r (l.take (k + 1)) = M.bst (M.over r (l.take k)) (nth l k) := by
  rw [take_nth l k h, M.over_append, M.over_cons, M.over_nil]
set_option maxRecDepth 100000 in
theorem over_calls (b : Nat) (fr : Nat × Nat) (r : Nat) (hr : r < 4294967296) (a : Option Addr) (l : List Nat) (cap : Nat) (w : World)
    (hrow : w.heap[b]? = some (.cells tbl 25 fr)) (hl : HasB w a l) (hn : l.length ≤ 1000000) :
    Calls Try.prog 74 #[.pointer (some ⟨b, 0, none⟩), .int .u32 r, .slice a l.length cap] w fun e w' => e = .returned (.int .u32 (M.over r l)) ∧ Below w.heap.size w w' := by
  go_enter Try.func74, Try.ntmps74
  go_wp2
  go_loopw [1, 11] (fun r' i wr => ∃ k : Nat, k ≤ l.length ∧ i = .int .i64 k ∧ r' = .int .u32 (M.over r (l.take k)) ∧ Below w.heap.size w wr) (fun _ i _ => l.length - (intOf i).toNat)
  case atStart => exact ⟨0, Nat.zero_le _, rfl, rfl, Below.refl _ _⟩
  case round =>
    obtain ⟨k, hk, rfl, rfl, hb⟩ := hrel
    by_cases hlt : k < l.length
    · have hR := over_take r l k hlt
      obtain ⟨R, hRe⟩ : ∃ R, R = M.over r (l.take k) := ⟨_, rfl⟩
      have hRl : R < 4294967296 := by rw [hRe]; exact M.over_lt _ _ hr (fun c hc => hl.1 c (List.mem_of_mem_take hc))
      rw [← hRe] at hR ⊢
      have HR := hid hR
      clear hR hRe
      obtain ⟨bb, off, rfl, hc⟩ := (hl.below hb).cell (by omega)
      have hcell := hc k hlt
      have hrow' := below_blk hb hrow
      clear hc
      have hcb := nth_lt l hl.1 k
      go_wp2_with (first | (go_at_call 31; refine (step_calls _ _ hRl hcb _).mono ?_; rintro e w' ⟨rfl, hb2⟩) | (refine wpList_load_row rfl _ _ rfl b rfl 25 tbl fr _ hrow' Try.underlying25 rfl (by kernel_rfl) ?_))
      go_roundw
      case rel => exact ⟨k + 1, by omega, by go_num, by rw [HR.out], below_next hb hb2⟩
      case measure => simp [intOf]; omega
    · go_wp2
      go_ret
      exact ⟨by rw [List.take_of_length_le (by omega)]; rfl, hb⟩
end Go.Proofs.Ytncooadaeifekaa
namespace Go.Proofs.Ytncooadaeifekaa
open Go.RowKit
theorem over_ok (r : Nat) (l : List Nat) (hr : r < 4294967296) (h : ∀ c ∈ l, c < 256) : M.over r l < 4294967296 := M.over_lt r l hr h
set_option maxRecDepth 100000 in
theorem raw_calls (a : Option Addr) (l : List Nat) (cap : Nat) (w : World) (hl : HasB w a l) (hn : l.length ≤ 1000000) :
    Calls Try.prog 30 #[.agg tbl, .slice a l.length cap] w fun e w' => e = .returned (.int .u32 (M.over 0 l)) ∧ Below w.heap.size w w' := by
  have hb := (Below.refl w.heap.size w).alloc (Nat.le_refl _) (.cells tbl 25)
  go_enter Try.func30, Try.ntmps30
  go_wp2_with (go_at_call 74; refine (over_calls w.heap.size (0, 0) 0 (by decide) a l cap _ (heap_alloc_new w _) (hl.below hb) hn).mono ?_; rintro e w' ⟨rfl, hb2⟩)
  go_ret
  exact ⟨rfl, below_next hb hb2⟩
set_option maxRecDepth 100000 in
theorem sum_calls (a : Option Addr) (l : List Nat) (cap : Nat) (w : World) (hl : HasB w a l) (hn : l.length ≤ 1000000) :
    Calls Try.prog 33 #[.agg tbl, .slice a l.length cap] w fun e w' => e = .returned (.int .u32 (M.over 4294967295 l ^^^ 4294967295 : Nat)) ∧ Below w.heap.size w w' := by
  have hb := (Below.refl w.heap.size w).alloc (Nat.le_refl _) (.cells tbl 25)
  have e1 : bits .xor .u32 (M.over 4294967295 l : Int) 4294967295 = ((M.over 4294967295 l ^^^ 4294967295 : Nat) : Int) := xor32 (M.over 4294967295 l) 4294967295 (M.over_lt _ _ (by decide) hl.1) (by decide)
  go_enter Try.func33, Try.ntmps33
  go_wp2_with (go_at_call 74; refine (over_calls w.heap.size (0, 0) 4294967295 (by decide) a l cap _ (heap_alloc_new w _) (hl.below hb) hn).mono ?_; rintro e w' ⟨rfl, hb2⟩)
  go_ret
  exact ⟨rfl, below_next hb hb2⟩
set_option maxRecDepth 100000 in
theorem multiple_calls (a : Option Addr) (l : List Nat) (cap : Nat) (w : World) (hl : HasB w a l) (hn : l.length ≤ 1000000) :
    Calls Try.prog 35 #[.agg tbl, .slice a l.length cap] w fun e w' => e = .returned (.bool ((M.over 0 l : Int) == 0)) ∧ Below w.heap.size w w' := by
  have hb := (Below.refl w.heap.size w).alloc (Nat.le_refl _) (.cells tbl 25)
  have hrow := heap_alloc_new w (.cells tbl 25)
  go_enter Try.func35, Try.ntmps35
  go_wp2_with (first | (go_at_call 30; refine (raw_calls a l cap _ (hl.below hb) hn).mono ?_; rintro e w' ⟨rfl, hb2⟩) | (refine wpList_load_row rfl _ _ rfl w.heap.size rfl 25 tbl (0, 0) _ hrow Try.underlying25 rfl (by kernel_rfl) ?_))
  go_ret
  exact ⟨rfl, below_next hb hb2⟩
end Go.Proofs.Ytncooadaeifekaa

/- Walk of crc.New: it answers the table of all 256 words; memory only grows. No condition. -/
namespace Go.Proofs.Ytncooadaeifekaa
open Go.RowKit
theorem zero25 : Try.zeroCells25.size = 256 := by kernel_rfl
theorem and1 (r : Nat) (hr : r < 4294967296) : bits .and .u32 (r : Int) 1 = ((r % 2 : Nat) : Int) := by
  have h1 : (BitVec.ofInt 32 (r : Int)).toNat = r := by rw [BitVec.ofInt_natCast, BitVec.toNat_ofNat]; exact Nat.mod_eq_of_lt hr
  show IntKind.u32.wrap ((BitVec.ofInt 32 (r : Int) &&& BitVec.ofInt 32 1).toNat : Int) = _
  rw [BitVec.toNat_and, h1, IntKind.wrap_u32]
  have : (BitVec.ofInt 32 1).toNat = 1 := rfl
  rw [this, Nat.and_one_is_mod]; omega
set_option maxRecDepth 100000 in
theorem new_calls (w : World) :
    Calls Try.prog 29 #[] w fun e w' => e = .returned (.agg tbl) ∧ Below w.heap.size w w' := by
  go_enter Try.func29, Try.ntmps29
  go_wp2
  have hz := zero25
  obtain ⟨Z, hZ⟩ : ∃ Z, Z = Try.zeroCells25 := ⟨_, rfl⟩
  rw [← hZ] at hz ⊢
  have HZ := hid hz
  clear hz hZ
  go_loopw [2, 3, 4, 5, 10] (fun _ _ _ i _ wr => ∃ (k : Nat) (cs : Array Value), k ≤ 256 ∧ i = .int .i64 k ∧ Hid (cs.size = 256 ∧ (∀ j, j < k → cs[j]? = some (.int .u32 (M.tb j)))) ∧
     wr.heap[w.heap.size]? = some (.cells Z 25 (0, 0)) ∧ wr.heap[w.heap.size + 1]? = some (.cells cs 25 (0, 0)) ∧ Below w.heap.size w wr)
     (fun _ _ _ i _ _ => 256 - (intOf i).toNat)
  case atStart => 
    exact ⟨0, Z, by omega, rfl, ⟨HZ.out, fun j hj => by omega⟩, heap_alloc2_old w _ _, heap_alloc2_new w _ _, ((Below.refl _ _).alloc (Nat.le_refl _) _).alloc (by simp) _⟩
  case round =>
    obtain ⟨k, cs, hk, rfl, hcs, h1, h2, hb⟩ := hrel
    by_cases hlt : k < 256
    · go_wp2
      go_loop [3, 4, 10] (fun r _ j => ∃ m : Nat, m ≤ 8 ∧ j = .int .i64 m ∧ r = .int .u32 (M.stpN m k)) (fun _ _ j => 8 - (intOf j).toNat)
      case atStart => exact ⟨0, by omega, rfl, rfl⟩
      case round =>
        obtain ⟨m, hm, rfl, rfl⟩ := hrel
        obtain ⟨R, hR⟩ : ∃ R, R = M.stpN m k := ⟨_, rfl⟩
        have hRl : R < 4294967296 := by rw [hR]; exact M.stpN_lt _ _ (by omega)
        have hs : M.stpN (m + 1) k = M.stp R := by rw [M.stpN_succ', hR]
        have HS := hid hs
        have HR := hid hR
        rw [← hR]
        clear hs hR
        by_cases hm8 : m < 8
        · have hst : Hid (M.stp R = if R % 2 = 1 then (R / 2) ^^^ 2197175160 else R / 2) := rfl
          have ha := and1 R hRl
          have hx : bits .xor .u32 ((R : Int) / 2) 2197175160 = ((R / 2 ^^^ 2197175160 : Nat) : Int) := xor32 (R / 2) 2197175160 (by omega) (by decide)
          by_cases hodd : R % 2 = 1
          · have hS2 : Hid (M.stpN (m + 1) k = R / 2 ^^^ 2197175160) := by have := HS.out; rw [hst.out, if_pos hodd] at this; exact this
            have ht : (((R % 2 : Nat) : Int) == 1) = true := by rw [hodd]; rfl
            have ht2 : ((R : Int) % 2 == 1) = true := by rw [show ((R : Int) % 2) = ((R % 2 : Nat) : Int) by omega]; exact ht
            clear hodd
            go_wp2
            go_round
            case rel => exact ⟨m + 1, by omega, by go_num, by rw [hS2.out]⟩
            case measure => simp [intOf]; omega
          · have hS2 : Hid (M.stpN (m + 1) k = R / 2) := by have := HS.out; rw [hst.out, if_neg hodd] at this; exact this
            have h0 : R % 2 = 0 := by omega
            have ht : (((R % 2 : Nat) : Int) == 1) = false := by rw [h0]; rfl
            have ht2 : ((R : Int) % 2 == 1) = false := by rw [show ((R : Int) % 2) = ((R % 2 : Nat) : Int) by omega]; exact ht
            clear hodd h0
            go_wp2
            go_round
            case rel => exact ⟨m + 1, by omega, by go_num, by rw [hS2.out]; go_num⟩
            case measure => simp [intOf]; omega
        · have hm' : m = 8 := by omega
          have hT : Hid (R = M.tb k) := by rw [HR.out, hm']; rfl
          clear hm'
          obtain ⟨c0, hc0⟩ : ∃ v, cs[k]? = some v := ⟨_, Array.getElem?_eq_getElem (by rw [hcs.out.1]; exact hlt)⟩
          have hcell : wr.cell? ⟨w.heap.size + 1, k, none⟩ = some c0 := by rw [cell_of_row wr _ k cs 25 (0, 0) h2]; exact hc0
          have hfz : wr.frozen? ⟨w.heap.size + 1, k, none⟩ = false := frozen_of_row wr _ k cs 25 h2
          go_wp2
          go_roundw
          case rel =>
            refine ⟨k + 1, cs.setIfInBounds k (.int .u32 R), by omega, by go_num, ⟨by simp [hcs.out.1], fun j hj => ?_⟩, ?_, ?_, ?_⟩
            · by_cases hjk : j = k
              · subst hjk; rw [hT.out]; simp [hcs.out.1, hlt]
              · rw [Array.getElem?_setIfInBounds_ne (by omega)]; exact hcs.out.2 j (by omega)
            · rw [heap_setCell_other _ _ _ _ (by simp)]; exact h1
            · exact heap_setCell_same _ _ _ _ _ _ h2
            · exact hb.setCell (by simp) _
          case measure => simp [intOf]; omega
    · have hke : k = 256 := by omega
      have hcs2 : Hid (cs = tbl) := by
        apply Array.ext_getElem?
        intro i
        by_cases hi : i < 256
        · rw [hcs.out.2 i (by omega), tbl_at i hi]
        · rw [Array.getElem?_eq_none (by rw [hcs.out.1]; omega), Array.getElem?_eq_none (by rw [tbl_size]; omega)]
      rw [hcs2.out] at h2
      clear hke
      have hz : Z.size = tbl.size := by rw [HZ.out, tbl_size]
      have h3 : (wr.setRow w.heap.size tbl).heap[w.heap.size]? = some (.cells tbl 25 (0, 0)) := setRow_heap wr _ _ _ _ _ h1
      have hb3 : Below w.heap.size w (wr.setRow w.heap.size tbl) := below_setRow hb (Nat.le_refl _) _
      have HZ2 := hid hz
      clear hz
      go_wp2_with (first | (refine wpList_load_row rfl _ _ rfl (w.heap.size + 1) rfl 25 tbl (0, 0) _ h2 Try.underlying25 rfl (by kernel_rfl) ?_) | (refine wpList_store_row rfl _ _ _ rfl w.heap.size tbl rfl rfl 25 Z h1 (by kernel_rfl) HZ2.out tbl_all ?_))
      refine bodyPost_ret (v := .agg tbl) (results_cell_row rfl _ _ w.heap.size 25 tbl (0, 0) _ rfl h3 Try.underlying25 rfl (by kernel_rfl)) rfl ⟨rfl, hb3⟩
end Go.Proofs.Ytncooadaeifekaa

/- Walks of the reference's step, Over, Sum and of the anchor of layer 1; memory only grows. -/
namespace Go.Proofs.Ytncooadaeifekaa
open Go.RowKit
set_option maxRecDepth 100000 in
theorem rstep_calls (r c : Nat) (hr : r < 4294967296) (hc : c < 256) (w : World) :
    Calls Try.prog 75 #[.int .u32 r, .int .u8 c] w fun e w' => e = .returned (.int .u32 (M.bst r c)) ∧ Below w.heap.size w w' := by
  have e1 : bits .xor .u32 (r : Int) (c : Int) = ((r ^^^ c : Nat) : Int) := xor32 r c hr (by omega)
  have hx := xor32_lt r c hr (by omega)
  obtain ⟨X, hX⟩ : ∃ X, X = r ^^^ c := ⟨_, rfl⟩
  rw [← hX] at e1 hx
  have HX : Hid (M.bst r c = M.stpN 8 X) := by rw [hX]; rfl
  clear hX
  go_enter Try.func75, Try.ntmps75
  go_wp2
  go_loop [0, 5, 6] (fun r j _ => ∃ m : Nat, m ≤ 8 ∧ j = .int .i64 m ∧ r = .int .u32 (M.stpN m X)) (fun _ j _ => 8 - (intOf j).toNat)
  case atStart => exact ⟨0, by omega, rfl, rfl⟩
  case round =>
    obtain ⟨m, hm, rfl, rfl⟩ := hrel
    obtain ⟨R, hR⟩ : ∃ R, R = M.stpN m X := ⟨_, rfl⟩
    have hRl : R < 4294967296 := by rw [hR]; exact M.stpN_lt _ _ (by omega)
    have hs : M.stpN (m + 1) X = M.stp R := by rw [M.stpN_succ', hR]
    have HS := hid hs
    have HR := hid hR
    rw [← hR]
    clear hs hR e1
    by_cases hm8 : m < 8
    · have hst : Hid (M.stp R = if R % 2 = 1 then (R / 2) ^^^ 2197175160 else R / 2) := rfl
      have hx : bits .xor .u32 ((R : Int) / 2) 2197175160 = ((R / 2 ^^^ 2197175160 : Nat) : Int) := xor32 (R / 2) 2197175160 (by omega) (by decide)
      by_cases hodd : R % 2 = 1
      · have hS2 : Hid (M.stpN (m + 1) X = R / 2 ^^^ 2197175160) := by have := HS.out; rw [hst.out, if_pos hodd] at this; exact this
        have ht2 : ((R : Int) % 2 == 1) = true := by rw [beq_iff_eq]; omega
        clear hodd
        go_wp2
        go_round
        case rel => exact ⟨m + 1, by omega, by go_num, by rw [hS2.out]⟩
        case measure => simp [intOf]; omega
      · have hS2 : Hid (M.stpN (m + 1) X = R / 2) := by have := HS.out; rw [hst.out, if_neg hodd] at this; exact this
        have ht2 : ((R : Int) % 2 == 1) = false := by rw [beq_eq_false_iff_ne]; omega
        clear hodd
        go_wp2
        go_round
        case rel => exact ⟨m + 1, by omega, by go_num, by rw [hS2.out]; go_num⟩
        case measure => simp [intOf]; omega
    · have hm' : m = 8 := by omega
      have hT : Hid (R = M.bst r c) := by show R = M.bst r c; rw [HR.out, hm', HX.out]
      clear hm'
      go_wp2
      go_ret
      exact ⟨by rw [← hT.out]; rfl, Below.refl _ _⟩
set_option maxRecDepth 100000 in
theorem rover_calls (r : Nat) (hr : r < 4294967296) (a : Option Addr) (l : List Nat) (cap : Nat) (w : World) (hl : HasB w a l) (hn : l.length ≤ 1000000) :
    Calls Try.prog 32 #[.int .u32 r, .slice a l.length cap] w fun e w' => e = .returned (.int .u32 (M.over r l)) ∧ Below w.heap.size w w' := by
  go_enter Try.func32, Try.ntmps32
  go_wp2
  go_loopw [0, 5] (fun r' i wr => ∃ k : Nat, k ≤ l.length ∧ i = .int .i64 k ∧ r' = .int .u32 (M.over r (l.take k)) ∧ Below w.heap.size w wr) (fun _ i _ => l.length - (intOf i).toNat)
  case atStart => exact ⟨0, Nat.zero_le _, rfl, rfl, Below.refl _ _⟩
  case round =>
    obtain ⟨k, hk, rfl, rfl, hb⟩ := hrel
    by_cases hlt : k < l.length
    · have hR := over_take r l k hlt
      obtain ⟨R, hRe⟩ : ∃ R, R = M.over r (l.take k) := ⟨_, rfl⟩
      have hRl : R < 4294967296 := by rw [hRe]; exact M.over_lt _ _ hr (fun c hc => hl.1 c (List.mem_of_mem_take hc))
      rw [← hRe] at hR ⊢
      have HR := hid hR
      clear hR hRe
      obtain ⟨bb, off, rfl, hc⟩ := (hl.below hb).cell (by omega)
      have hcell := hc k hlt
      clear hc
      have hcb := nth_lt l hl.1 k
      go_wp2_with (go_at_call 75; refine (rstep_calls _ _ hRl hcb _).mono ?_; rintro e w' ⟨rfl, hb2⟩)
      go_roundw
      case rel => exact ⟨k + 1, by omega, by go_num, by rw [HR.out], below_next hb hb2⟩
      case measure => simp [intOf]; omega
    · go_wp2
      go_ret
      exact ⟨by rw [List.take_of_length_le (by omega)]; rfl, hb⟩
theorem compl32 (x : Nat) (h : x < 4294967296) : x ^^^ 4294967295 = 4294967295 - x := by
  have h1 : x ^^^ 4294967295 = (2 ^ 32 - 1) - x := by
    apply Nat.eq_of_testBit_eq; intro i
    have e : (2 : Nat) ^ 32 - 1 - x = 2 ^ 32 - (x + 1) := by omega
    rw [e, Nat.testBit_two_pow_sub_succ h, Nat.testBit_xor, show (4294967295 : Nat) = 2 ^ 32 - 1 from rfl, Nat.testBit_two_pow_sub_one]
    by_cases hi : i < 32
    · simp [hi]
    · have : x.testBit i = false := Nat.testBit_lt_two_pow (Nat.lt_of_lt_of_le h (Nat.pow_le_pow_right (by decide) (by omega) : 2 ^ 32 ≤ 2 ^ i))
      simp [hi, this]
  rw [h1]
set_option maxRecDepth 100000 in
theorem rsum_calls (a : Option Addr) (l : List Nat) (cap : Nat) (w : World) (hl : HasB w a l) (hn : l.length ≤ 1000000) :
    Calls Try.prog 34 #[.slice a l.length cap] w fun e w' => e = .returned (.int .u32 (M.over 4294967295 l ^^^ 4294967295 : Nat)) ∧ Below w.heap.size w w' := by
  have hlt := M.over_lt 4294967295 l (by decide) hl.1
  have e1 := compl32 _ hlt
  have HE := hid e1
  clear e1
  go_enter Try.func34, Try.ntmps34
  go_wp2_with (go_at_call 32; refine (rover_calls 4294967295 (by decide) a l cap _ hl hn).mono ?_; rintro e w' ⟨rfl, hb2⟩)
  go_ret
  exact ⟨ret_int (by rw [HE.out]; omega), hb2⟩
theorem hasB_new (w : World) (l : List Nat) (hl : ∀ c ∈ l, c < 256) (fr : Nat × Nat) : HasB (w.alloc (.cells (l.map fun (c : Nat) => Value.int .u8 c).toArray 5 fr)) (some ⟨w.heap.size, 0, none⟩) l := by
  refine ⟨hl, .inr ⟨w.heap.size, 0, rfl, fun i hi => ?_⟩⟩
  rw [cell_of_row _ _ _ _ _ _ (heap_alloc_new w _)]
  simp [nth, hi]
def nine : List Nat := [49, 50, 51, 52, 53, 54, 55, 56, 57]
theorem nine_sum : M.over 4294967295 nine ^^^ 4294967295 = 3808858755 := by decide +kernel
set_option maxRecDepth 100000 in
theorem anchor_calls (w : World) :
    Calls Try.prog 28 #[] w fun e w' => e = .returned (.bool true) ∧ Below w.heap.size w w' := by
  have hs := nine_sum
  have HS := hid hs
  clear hs
  have kc := fun (w : World) (C : Array Value) (n c : Nat) => Lib.run_convert_bytes_const (P := Try.prog) w 28 5 C n c Try.underlying28 Try.underlying5
  go_enter Try.func28, Try.ntmps28
  go_wp2_with (first | (go_at_call 29; refine (new_calls _).mono ?_; rintro e w' ⟨rfl, hb2⟩))
  refine (sum_calls _ nine 9 _ (hasB_new _ nine (by decide) _) (by decide)).mono ?_
  rintro e w2 ⟨rfl, hb3⟩
  rw [HS.out]
  go_wp2
  go_ret
  exact ⟨rfl, below_next (hb2.alloc (by have := hb2.size; omega) _) hb3⟩
end Go.Proofs.Ytncooadaeifekaa

/- Plain laws of numbers in bytes: the least width of a number, what fits. No program in sight. -/
namespace Go.Proofs.Ytncooadaeifekaa.M
/-- the least width, told of a number: 8 of one that is in no width -/
def WidthOf (x : Int) (n : Nat) : Prop := (x < 0 → n = 8) ∧ (0 ≤ x → 1 ≤ n ∧ n ≤ 8 ∧ (n ≤ 7 → x.toNat / 256 ^ n = 0) ∧ (n = 1 ∨ 1 ≤ x.toNat / 256 ^ (n - 1)))
def fits (w x : Int) : Bool := decide (1 ≤ w ∧ w ≤ 7 ∧ 0 ≤ x ∧ x.toNat < 256 ^ w.toNat)
theorem fits_iff (w x : Int) : fits w x = true ↔ 1 ≤ w ∧ w ≤ 7 ∧ 0 ≤ x ∧ x.toNat < 256 ^ w.toNat := by simp [fits]
theorem pow_pos (n : Nat) : 0 < 256 ^ n := Nat.pow_pos (by decide)
theorem pow7 (w : Nat) (h : w ≤ 7) : 256 ^ w ≤ 72057594037927936 := by
  have := Nat.pow_le_pow_right (n := 256) (by decide) h
  exact this
theorem fits_lt {w x : Int} (h : fits w x = true) : x < 72057594037927936 := by
  obtain ⟨h1, h2, h3, h4⟩ := (fits_iff w x).1 h
  have := pow7 w.toNat (by omega)
  omega
theorem div_zero_iff (x n : Nat) : x / 256 ^ n = 0 ↔ x < 256 ^ n := by rw [Nat.div_eq_zero_iff]; have := pow_pos n; omega
theorem width_lt {x : Int} {n : Nat} (h : WidthOf x n) (w : Int) (h1 : 1 ≤ w) (h7 : w ≤ 7) : ((n : Int) ≤ w) ↔ fits w x = true := by
  rw [fits_iff]
  by_cases hx : x < 0
  · have := h.1 hx
    omega
  · obtain ⟨a, b, c, d⟩ := h.2 (by omega)
    constructor
    · intro hn
      refine ⟨h1, h7, by omega, ?_⟩
      have c := (div_zero_iff _ _).1 (c (by omega))
      exact Nat.lt_of_lt_of_le c (Nat.pow_le_pow_right (by decide) (by omega))
    · rintro ⟨_, _, _, h4⟩
      rcases d with d | d
      · omega
      · by_cases hn : (n : Int) ≤ w
        · exact hn
        · exfalso
          have hle : 256 ^ w.toNat ≤ 256 ^ (n - 1) := Nat.pow_le_pow_right (by decide) (by omega)
          have := (div_zero_iff x.toNat (n - 1)).2 (by omega)
          omega
theorem width_no {x : Int} {n : Nat} (h : WidthOf x n) (hx : x < 0 ∨ 72057594037927936 ≤ x) : n = 8 := by
  by_cases h0 : x < 0
  · exact h.1 h0
  · obtain ⟨a, b, c, d⟩ := h.2 (by omega)
    by_cases h8 : n = 8
    · exact h8
    · have c := (div_zero_iff _ _).1 (c (by omega))
      have := pow7 n (by omega)
      omega
theorem width_in {x : Int} {n : Nat} (h : WidthOf x n) (hx : 0 ≤ x) (h7 : x < 72057594037927936) : 1 ≤ n ∧ n ≤ 7 ∧ fits n x = true ∧ (n = 1 ∨ fits (n - 1) x = false) := by
  obtain ⟨a, b, c, d⟩ := h.2 hx
  have hn : n ≤ 7 := by
    by_cases hn : n ≤ 7
    · exact hn
    · exfalso
      have h8 : n = 8 := by omega
      subst h8
      rcases d with d | d
      · omega
      · have := (div_zero_iff x.toNat 7).2 (by show x.toNat < 72057594037927936; omega)
        simp at d; omega
  refine ⟨a, hn, (width_lt h n (by omega) (by omega)).1 (Int.le_refl _), ?_⟩
  by_cases h1 : n = 1
  · exact .inl h1
  · right
    by_cases hf : fits (n - 1) x = true
    · have := (width_lt h (n - 1) (by omega) (by omega)).2 hf
      omega
    · simpa using hf
theorem div_step (x n : Nat) : x / 256 ^ n / 256 = x / 256 ^ (n + 1) := by rw [Nat.div_div_eq_div_mul, Nat.pow_succ]
theorem div_big (x n : Nat) (h : x < 9223372036854775808) (hn : 1 ≤ x / 256 ^ n) : n ≤ 7 := by
  by_cases h7 : n ≤ 7
  · exact h7
  · exfalso
    have : 256 ^ 8 ≤ 256 ^ n := Nat.pow_le_pow_right (by decide) (by omega)
    have := (div_zero_iff x n).2 (by omega)
    omega
end Go.Proofs.Ytncooadaeifekaa.M

/- Walks of the codec's width, within, of the reference's power and Fits, of Same: memory only grows. -/
namespace Go.Proofs.Ytncooadaeifekaa
open Go.RowKit
theorem within_calls (x : Int) (w : World) :
    Calls Try.prog 80 #[.int .i64 x] w fun e w' => e = .returned (.bool (decide (1 ≤ x ∧ x ≤ 7))) ∧ Below w.heap.size w w' := by
  by_cases h1 : 1 ≤ x
  · by_cases h2 : x ≤ 7
    · have t1 : decide (1 ≤ x) = true := by simpa using h1
      have t2 : decide (x ≤ 7) = true := by simpa using h2
      have t3 : decide (1 ≤ x ∧ x ≤ 7) = true := by simp [h1, h2]
      go_enter Try.func80, Try.ntmps80
      go_wp2
      go_ret
      exact ⟨by first | rfl | (rw [t3]; rfl), Below.refl _ _⟩
    · have t1 : decide (1 ≤ x) = true := by simpa using h1
      have t2 : decide (x ≤ 7) = false := by simpa using h2
      have t3 : decide (1 ≤ x ∧ x ≤ 7) = false := by simp; omega
      go_enter Try.func80, Try.ntmps80
      go_wp2
      go_ret
      exact ⟨by first | rfl | (rw [t3]; rfl), Below.refl _ _⟩
  · have t1 : decide (1 ≤ x) = false := by simpa using h1
    have t3 : decide (1 ≤ x ∧ x ≤ 7) = false := by simp; omega
    go_enter Try.func80, Try.ntmps80
    go_wp2
    go_ret
    exact ⟨by simp, Below.refl _ _⟩
set_option maxRecDepth 100000 in
theorem width_calls (x : Int) (hx : -9223372036854775808 ≤ x) (hx2 : x < 9223372036854775808) (w : World) :
    Calls Try.prog 44 #[.int .i64 x] w fun e w' => (∃ n : Nat, e = .returned (.int .i64 n) ∧ M.WidthOf x n) ∧ Below w.heap.size w w' := by
  by_cases h0 : x < 0
  · have t0 : decide (x < 0) = true := by simpa using h0
    have t1 : decide (0 < x / 256) = false := by simp; omega
    go_enter Try.func44, Try.ntmps44
    go_wp2
    go_loop [0, 3] (fun v n => v = .int .i64 x ∧ n = .int .i64 1) (fun _ _ => 0)
    case atStart => exact ⟨rfl, rfl⟩
    case round =>
      obtain ⟨rfl, rfl⟩ := hrel
      go_wp2
      go_ret
      exact ⟨⟨8, rfl, fun _ => rfl, fun h => absurd h0 (by omega)⟩, Below.refl _ _⟩
  · obtain ⟨X, hX⟩ : ∃ X : Nat, x = X := ⟨x.toNat, by omega⟩
    subst hX
    have hXl : X < 9223372036854775808 := by omega
    clear hx hx2 h0
    go_enter Try.func44, Try.ntmps44
    go_wp2
    go_loop [0, 3] (fun v n => ∃ m V : Nat, v = .int .i64 V ∧ n = .int .i64 m ∧ 1 ≤ m ∧ m ≤ 8 ∧ V = X / 256 ^ (m - 1) ∧ (m = 1 ∨ 1 ≤ V)) (fun v _ => (intOf v).toNat)
    case atStart => exact ⟨1, X, rfl, rfl, by omega, by omega, by simp, .inl rfl⟩
    case round =>
      obtain ⟨m, V, rfl, rfl, hm1, hm8, hV, hV1⟩ := hrel
      have hVl : V < 9223372036854775808 := by rw [hV]; exact Nat.lt_of_le_of_lt (Nat.div_le_self _ _) hXl
      have hstep : Hid (V / 256 = X / 256 ^ m) := by
        show V / 256 = X / 256 ^ m
        rw [hV, M.div_step, show m - 1 + 1 = m by omega]
      have HV := hid hV
      have HV1 := hid hV1
      clear hV hV1
      by_cases hz : 0 < V / 256
      · have t1 : decide (0 < (V : Int) / 256) = true := by simp; omega
        have hm7 : m ≤ 7 := M.div_big X m hXl (by rw [← hstep.out]; exact hz)
        have hzz := hid hz
        clear hz
        go_wp2
        go_round
        case rel => exact ⟨m + 1, V / 256, by go_num, by go_num, by omega, by omega, by rw [hstep.out]; rfl, .inr hzz.out⟩
        case measure => have := hzz.out; simp [intOf]; omega
      · have t1 : decide (0 < (V : Int) / 256) = false := by simp; omega
        have t0 : decide ((V : Int) < 0) = false := by simp
        have hw : M.WidthOf (X : Int) m := ⟨fun h => absurd h (by omega), fun _ => ⟨hm1, hm8, fun _ => by rw [Int.toNat_natCast, ← hstep.out]; omega, by
          rcases HV1.out with h | h
          · exact .inl h
          · right; rw [Int.toNat_natCast, ← HV.out]; exact h⟩⟩
        have HW := hid hw
        clear hw hz
        by_cases h7 : 7 < m
        · have t2 : decide ((7 : Int) < (m : Int)) = true := by simp; omega
          have e8 : m = 8 := by omega
          have HW8 : Hid (M.WidthOf (X : Int) 8) := by rw [← e8]; exact HW
          clear e8 h7
          go_wp2
          go_ret
          exact ⟨⟨8, rfl, HW8.out⟩, Below.refl _ _⟩
        · have t2 : decide ((7 : Int) < (m : Int)) = false := by simp; omega
          go_wp2
          go_ret
          exact ⟨⟨m, rfl, HW.out⟩, Below.refl _ _⟩
set_option maxRecDepth 100000 in
theorem power_calls (n : Nat) (hn : n ≤ 7) (w : World) :
    Calls Try.prog 77 #[.int .i64 n] w fun e w' => e = .returned (.int .i64 (256 ^ n : Nat)) ∧ Below w.heap.size w w' := by
  go_enter Try.func77, Try.ntmps77
  go_wp2
  go_loop [3, 4] (fun p i => ∃ m P : Nat, m ≤ n ∧ i = .int .i64 m ∧ p = .int .i64 P ∧ P = 256 ^ m) (fun _ i => n - (intOf i).toNat)
  case atStart => exact ⟨0, 1, by omega, rfl, rfl, rfl⟩
  case round =>
    obtain ⟨m, P, hm, rfl, rfl, hP⟩ := hrel
    have hPl : P ≤ 72057594037927936 := by rw [hP]; exact M.pow7 m (by omega)
    have HP := hid hP
    clear hP
    by_cases hlt : m < n
    · have hs : Hid (256 * P = 256 ^ (m + 1)) := by show 256 * P = _; rw [Nat.pow_succ, HP.out, Nat.mul_comm]
      have hsl : P ≤ 281474976710656 := by rw [HP.out]; exact Nat.le_trans (Nat.pow_le_pow_right (by decide) (by omega : m ≤ 6)) (by decide)
      go_wp2
      go_round
      case rel => exact ⟨m + 1, 256 * P, by omega, by go_num, by go_num, hs.out⟩
      case measure => simp [intOf]; omega
    · have e : m = n := by omega
      have HE : Hid (256 ^ n = P) := by show _ = P; rw [HP.out, e]
      clear e
      go_wp2
      go_ret
      refine ⟨?_, Below.refl _ _⟩; show Ending.returned (.int .i64 (P : Int)) = _; exact ret_int (by rw [← HE.out, Int.natCast_pow]; rfl)
set_option maxRecDepth 100000 in
theorem fits_calls (k x : Int) (w : World) :
    Calls Try.prog 45 #[.int .i64 k, .int .i64 x] w fun e w' => e = .returned (.bool (M.fits k x)) ∧ Below w.heap.size w w' := by
  by_cases h1 : 1 ≤ k
  · have t1 : decide (1 ≤ k) = true := by simpa using h1
    by_cases h2 : k ≤ 7
    · have t2 : decide (k ≤ 7) = true := by simpa using h2
      by_cases h3 : 0 ≤ x
      · have t3 : decide (0 ≤ x) = true := by simpa using h3
        obtain ⟨n, hn⟩ : ∃ n : Nat, k = n := ⟨k.toNat, by omega⟩
        subst hn
        obtain ⟨P, hP⟩ : ∃ P, P = 256 ^ n := ⟨_, rfl⟩
        have hPl : P ≤ 72057594037927936 := by rw [hP]; exact M.pow7 n (by omega)
        have hP0 : 0 < P := by rw [hP]; exact M.pow_pos n
        have hf : M.fits n x = decide (x ≤ (P : Int) - 1) := by
          rw [Bool.eq_iff_iff, M.fits_iff, decide_eq_true_iff, Int.toNat_natCast, ← hP]; omega
        have HF := hid hf
        have HP := hid hP
        clear hf hP
        have hn7 : n ≤ 7 := by omega
        go_enter Try.func45, Try.ntmps45
        go_wp2_with (go_at_call 77; refine (power_calls n hn7 _).mono ?_; rintro e w' ⟨rfl, hb2⟩; rw [← HP.out])
        go_ret
        exact ⟨by rw [HF.out]; rfl, hb2⟩
      · have t3 : decide (0 ≤ x) = false := by simpa using h3
        have hf : M.fits k x = false := by simp [M.fits]; omega
        go_enter Try.func45, Try.ntmps45
        go_wp2
        go_ret
        exact ⟨by first | rfl | (rw [hf]; rfl), Below.refl _ _⟩
    · have t2 : decide (k ≤ 7) = false := by simpa using h2
      have hf : M.fits k x = false := by simp [M.fits]; omega
      go_enter Try.func45, Try.ntmps45
      go_wp2
      go_ret
      exact ⟨by first | rfl | (rw [hf]; rfl), Below.refl _ _⟩
  · have t1 : decide (1 ≤ k) = false := by simpa using h1
    have hf : M.fits k x = false := by simp [M.fits]; omega
    go_enter Try.func45, Try.ntmps45
    go_wp2
    go_ret
    exact ⟨by first | rfl | (rw [hf]; rfl), Below.refl _ _⟩
set_option maxRecDepth 100000 in
theorem same_calls (a1 : Option Addr) (l1 : List Nat) (c1 : Nat) (a2 : Option Addr) (l2 : List Nat) (c2 : Nat) (w : World) (h1 : HasB w a1 l1) (h2 : HasB w a2 l2) (hn : l1.length ≤ 1000000) (hn2 : l2.length ≤ 1000000) :
    Calls Try.prog 48 #[.slice a1 l1.length c1, .slice a2 l2.length c2] w fun e w' => e = .returned (.bool (decide (l1 = l2))) ∧ Below w.heap.size w w' := by
  by_cases hl : l1.length = l2.length
  · have t1 : ((l1.length : Int) == (l2.length : Int)) = true := by rw [beq_iff_eq]; omega
    have HL := hid hl
    clear hl
    go_enter Try.func48, Try.ntmps48
    go_wp2
    go_loopw [5] (fun i wr => ∃ k : Nat, k ≤ l1.length ∧ i = .int .i64 k ∧ Hid (∀ j, j < k → nth l1 j = nth l2 j) ∧ Below w.heap.size w wr) (fun i _ => l1.length - (intOf i).toNat)
    case atStart => exact ⟨0, Nat.zero_le _, rfl, (fun j hj => absurd hj (by omega)), Below.refl _ _⟩
    case round =>
      obtain ⟨k, hk, rfl, hK, hb⟩ := hrel
      by_cases hlt : k < l1.length
      · have hlt2 : k < l2.length := by have := HL.out; omega
        obtain ⟨b1, o1, rfl, hc1⟩ := (h1.below hb).cell (by omega)
        obtain ⟨b2, o2, rfl, hc2⟩ := (h2.below hb).cell (by omega)
        have hcell1 := hc1 k hlt
        have hcell2 := hc2 k hlt2
        clear hc1 hc2
        by_cases he : nth l1 k = nth l2 k
        · have t2 : ((nth l1 k : Int) == (nth l2 k : Int)) = true := by rw [he]; simp
          have HE := hid he
          clear he
          go_upto_region 6 with (fail)
          go_quiet (fail)
          go_wp2
          go_roundw
          case rel => exact ⟨k + 1, by omega, by go_num, (fun j hj => by by_cases e : j = k; (rw [e]; exact HE.out); exact hK.out j (by omega)), below_drewN hb _⟩
          case measure => simp [intOf]; omega
        · have t2 : ((nth l1 k : Int) == (nth l2 k : Int)) = false := by rw [beq_eq_false_iff_ne]; omega
          have hne : Hid (decide (l1 = l2) = false) := by
            show decide (l1 = l2) = false
            rw [decide_eq_false_iff_not]
            rintro rfl
            exact he rfl
          clear he
          go_upto_region 6 with (fail)
          go_quiet (fail)
          go_wp2
          go_ret
          exact ⟨by rw [hne.out]; rfl, below_drewN hb _⟩
      · have he : Hid (decide (l1 = l2) = true) := by
          show decide (l1 = l2) = true
          rw [decide_eq_true_iff]
          exact nth_eq l1 l2 HL.out fun j hj => hK.out j (by omega)
        go_wp2
        go_ret
        exact ⟨by rw [he.out]; rfl, hb⟩
  · have t1 : ((l1.length : Int) == (l2.length : Int)) = false := by rw [beq_eq_false_iff_ne]; omega
    have hne : Hid (decide (l1 = l2) = false) := by
      show decide (l1 = l2) = false
      rw [decide_eq_false_iff_not]
      rintro rfl
      exact hl rfl
    go_enter Try.func48, Try.ntmps48
    go_wp2
    go_ret
    exact ⟨by rw [hne.out]; rfl, Below.refl _ _⟩
end Go.Proofs.Ytncooadaeifekaa

/- Walks of the pen's Num, Bytes and Out, of layer 2's anchor. -/
namespace Go.Proofs.Ytncooadaeifekaa
open Go.RowKit
/-- a pen in block N: what it wrote, and whether something went wrong -/
def PenB (w : World) (N : Nat) (v : Value) (l : List Nat) (bad : Bool) : Prop := w.heap[N]? = some (.cells #[v, .bool bad] 63 (0, 0)) ∧ OwnB w 0 v l ∧ v.ownBlock ≠ some N
def penSet (N : Nat) (v : Value) : Nat → Prop := fun k => k = N ∨ v.ownBlock = some k
/-- a step of a pen: what it holds behind it -/
def Pens (N : Nat) (v : Value) (w w' : World) (l : List Nat) (bad : Bool) : Prop :=
  ∃ v', PenB w' N v' l bad ∧ Turned (penSet N v) w w' ∧ ∀ j, v'.ownBlock = some j → v.ownBlock = some j ∨ w.heap.size ≤ j
theorem PenB.cell0 {w : World} {N : Nat} {v : Value} {l : List Nat} {bad : Bool} (h : PenB w N v l bad) : w.cell? ⟨N, 0, none⟩ = some v := by rw [cell_of_row _ _ _ _ _ _ h.1]; rfl
theorem PenB.cell1 {w : World} {N : Nat} {v : Value} {l : List Nat} {bad : Bool} (h : PenB w N v l bad) : w.cell? ⟨N, 1, none⟩ = some (.bool bad) := by rw [cell_of_row _ _ _ _ _ _ h.1]; rfl
theorem PenB.free {w : World} {N : Nat} {v : Value} {l : List Nat} {bad : Bool} (h : PenB w N v l bad) (i : Nat) : w.frozen? ⟨N, i, none⟩ = false := frozen_of_row w N i _ 63 h.1
theorem PenB.has {w : World} {N : Nat} {v : Value} {l : List Nat} {bad : Bool} (h : PenB w N v l bad) : ∃ a cap, v = .slice a l.length cap ∧ l.length ≤ cap ∧ HasB w a l := h.2.1.slice
theorem PenB.put {w : World} {N : Nat} {u v : Value} {l : List Nat} {bad : Bool} (h : w.heap[N]? = some (.cells #[u, .bool bad] 63 (0, 0))) (ho : OwnB w 0 v l) (hne : v.ownBlock ≠ some N) : PenB (w.setCell ⟨N, 0, none⟩ v) N v l bad := by
  refine ⟨?_, ?_, hne⟩
  · rw [heap_setCell_same w N 0 _ 63 _ h]; rfl
  · exact ((Turned.refl (fun k => k = N) w).setCell (p := ⟨N, 0, none⟩) (.inl rfl) v).own ho fun k hk e => hne (by rw [hk, e])
theorem PenB.spoil {w : World} {N : Nat} {v : Value} {l : List Nat} {bad : Bool} (h : PenB w N v l bad) : PenB (w.setCell ⟨N, 1, none⟩ (.bool true)) N v l true := by
  refine ⟨?_, ?_, h.2.2⟩
  · rw [heap_setCell_same w N 1 _ 63 _ h.1]; rfl
  · exact ((Turned.refl (fun k => k = N) w).setCell (p := ⟨N, 1, none⟩) (.inl rfl) _).own h.2.1 fun k hk e => h.2.2 (by rw [hk, e])
theorem PenB.turned {w w' : World} {S : Nat → Prop} {N : Nat} {v : Value} {l : List Nat} {bad : Bool} (h : PenB w N v l bad) (ht : Turned S w w') (hS : ∀ k, penSet N v k → ¬ S k) : PenB w' N v l bad :=
  ⟨ht.blk h.1 (hS N (.inl rfl)), ht.own h.2.1 fun k hk => hS k (.inr hk), h.2.2⟩
theorem PenB.grow {w w' : World} {N : Nat} {v : Value} {l : List Nat} {bad : Bool} (h : PenB w N v l bad) (hb : Below w.heap.size w w') : PenB w' N v l bad :=
  h.turned (S := fun _ => False) (Turned.ofBelow hb) fun _ _ h => h
theorem PenB.lt {w : World} {N : Nat} {v : Value} {l : List Nat} {bad : Bool} (h : PenB w N v l bad) : ∀ k, penSet N v k → k < w.heap.size := by
  rintro k (rfl | hk)
  · exact lt_of_block h.1
  · exact (h.2.1.ownLt k hk).2
theorem Pens.refl {w : World} {N : Nat} {v : Value} {l : List Nat} {bad : Bool} (h : PenB w N v l bad) : Pens N v w w l bad := ⟨v, h, Turned.refl _ _, fun _ h => .inl h⟩
theorem Pens.trans {w w1 w2 : World} {N : Nat} {v v1 : Value} {l : List Nat} {bad : Bool} (h1 : Turned (penSet N v) w w1) (h2 : ∀ j, v1.ownBlock = some j → v.ownBlock = some j ∨ w.heap.size ≤ j) (h : Pens N v1 w1 w2 l bad) : Pens N v w w2 l bad := by
  obtain ⟨v', hp, ht, hl⟩ := h
  refine ⟨v', hp, h1.trans ht ?_, fun j hj => ?_⟩
  · rintro i (rfl | hi)
    · exact .inl (.inl rfl)
    · rcases h2 i hi with h | h
      · exact .inl (.inr h)
      · exact .inr h
  · rcases hl j hj with h | h
    · exact h2 j h
    · right; have := h1.size; omega
/-- behind 'p.out = append(p.out, ..)' -/
theorem Pens.appended {w w1 w2 : World} {N : Nat} {v v' : Value} {l l' : List Nat} {bad : Bool} (h : PenB w N v l bad) (hb : Below w.heap.size w w1) (ht : Turned (fun k => v.ownBlock = some k) w1 w2)
    (ho : OwnB w2 0 v' l') (hl : ∀ j, v'.ownBlock = some j → v.ownBlock = some j ∨ w1.heap.size ≤ j) : Pens N v w (w2.setCell ⟨N, 0, none⟩ v') l' bad := by
  have hN := lt_of_block h.1
  have hl' : ∀ j, v'.ownBlock = some j → v.ownBlock = some j ∨ w.heap.size ≤ j := fun j hj => by
    rcases hl j hj with h | h
    · exact .inl h
    · right; have := hb.size; omega
  have hT : Turned (penSet N v) w w2 := (Turned.ofBelow hb).trans (ht.mono fun k _ hk => show penSet N v k from .inr hk) fun i hi => .inl hi
  refine ⟨v', PenB.put (u := v) (ht.blk (below_blk hb h.1) fun e => h.2.2 e) ho ?_, hT.setCell (p := ⟨N, 0, none⟩) (.inl (.inl rfl)) v', hl'⟩
  intro e
  rcases hl' N e with h1 | h1
  · exact h.2.2 h1
  · omega
theorem within_yes (x : Int) (h1 : 1 ≤ x) (h2 : x ≤ 7) (w : World) : Calls Try.prog 80 #[.int .i64 x] w fun e w' => e = .returned (.bool true) ∧ Below w.heap.size w w' := by
  have h := within_calls x w
  rw [decide_eq_true (And.intro h1 h2)] at h
  exact h
theorem within_no (x : Int) (h1 : ¬ (1 ≤ x ∧ x ≤ 7)) (w : World) : Calls Try.prog 80 #[.int .i64 x] w fun e w' => e = .returned (.bool false) ∧ Below w.heap.size w w' := by
  have h := within_calls x w
  rw [decide_eq_false h1] at h
  exact h
set_option maxRecDepth 100000 in
set_option maxHeartbeats 400000 in
theorem penNum_fits (N k X : Nat) (hk : M.fits k X = true) (w : World) (v : Value) (l : List Nat) (bad : Bool) (hp : PenB w N v l bad) (hl : l.length ≤ 900000) :
    Calls Try.prog 55 #[.pointer (some ⟨N, 0, none⟩), .int .i64 k, .int .i64 X] w fun e w' => e = .returned (.tuple #[]) ∧ Pens N v w w' (l ++ M.leB k X) bad := by
  obtain ⟨hk1, hk7, _, hX⟩ := (M.fits_iff _ _).1 hk
  have HXL := hid (M.fits_lt hk)
  have hwid : ∀ n, M.WidthOf (X : Int) n → decide (k < n) = false := fun n hn => by have := (M.width_lt hn k hk1 hk7).2 hk; simp; omega
  have HWID := hid hwid
  have hk7' : k ≤ 7 := by omega
  have hk1' : (1 : Int) ≤ (k : Int) ∧ (k : Int) ≤ 7 := ⟨hk1, hk7⟩
  have HK1 := hid hk1'
  have HX := hid hX
  clear hwid hX hk hk1 hk7 hk1'
  have HP := hid hp
  go_enter Try.func55, Try.ntmps55
  go_wp2_with (first | (go_at_call 80; refine (within_yes _ HK1.out.1 HK1.out.2 _).mono ?_; rintro e w1 ⟨rfl, hb1⟩) | (go_at_call 44; refine (width_calls _ (by have := HXL.out; omega) (by have := HXL.out; omega) _).mono ?_; rintro e w2 ⟨⟨n, rfl, hn⟩, hb2⟩; have tn := HWID.out n hn; clear hn))
  have hp2 := (hp.grow hb1).grow hb2
  clear tn
  go_loopw [2, 19] (fun x i wr => ∃ m Y : Nat, m ≤ k ∧ x = .int .i64 Y ∧ i = .int .i64 m ∧ Hid (Y = X / 256 ^ m) ∧ Pens N v w2 wr (l ++ M.leB m X) bad) (fun _ i _ => k - (intOf i).toNat)
  case atStart => exact ⟨0, X, Nat.zero_le _, rfl, rfl, (by show X = X / 256 ^ 0; simp), by simpa [M.leB] using Pens.refl hp2⟩
  case round =>
    obtain ⟨m, Y, hm, rfl, rfl, HY, hpr⟩ := hrel
    by_cases hlt : m < k
    · obtain ⟨v1, hp1, ht1, hl1⟩ := hpr
      obtain ⟨a1, c1, rfl, hc1, hh1⟩ := hp1.has
      have hL1 : (l ++ M.leB m X).length ≤ 900007 := by rw [List.length_append, M.leB_length]; omega
      have hL2 : Hid (((l ++ M.leB m X) ++ [Y % 256]) = l ++ M.leB (m + 1) X) := by show _ = _; rw [M.leB_succ', HY.out, List.append_assoc]
      have hY2 : Hid (Y / 256 = X / 256 ^ (m + 1)) := by show _ = _; rw [← M.div_step, HY.out]
      have hYl : Hid (Y < 72057594037927936) := by show _ < _; rw [HY.out]; exact Nat.lt_of_le_of_lt (Nat.div_le_self _ _) (by have := HXL.out; omega)
      obtain ⟨L, hL⟩ : ∃ L, L = l ++ M.leB m X := ⟨_, rfl⟩
      rw [← hL] at hp1 hh1 hL1 hL2 hc1 hl1
      clear hL
      have hcell := hp1.cell0
      have hfree := hp1.free
      have HP1 := hid hp1
      obtain ⟨cc, hcc⟩ : ∃ cc : Nat, (Y : Int) % 256 = cc := ⟨Y % 256, by omega⟩
      have hccl : cc < 256 := by omega
      obtain ⟨L3, hL3⟩ : ∃ L3, L3 = L ++ [cc] := ⟨_, rfl⟩
      have hL3l : L3.length ≤ 900008 := by rw [hL3]; simp; omega
      have HL3 := hid hL3
      clear hL3
      have hcn : Hid (cc = Y % 256) := by show _ = _; omega
      go_wp2_with (first | ((with_reducible show wpList _ _ _ (⟨some 29, _, _, _, _, _⟩ :: _) _ _); refine wpList_append_loc 29 rfl rfl _ _ rfl 0 _ L [cc] L3 HL3.out.symm (by rfl) ((HP1.out.grow ((Below.refl _ _).alloc (Nat.le_refl _) _)).2.1) _ 1 (by rfl) (hasB_one _ cc hccl) (by omega) (Nat.zero_le _) ?_; intro av cv w5 ho5 hcv5 hh5 ht5 hl5; have hfree5 := frozen_of_row _ N 0 _ 63 (ht5.blk (below_blk ((Below.refl _ _).alloc (Nat.le_refl _) _) HP1.out.1) (fun e => HP1.out.2.2 e)); have hcell5 := (cell_of_row _ N 0 _ 63 _ (ht5.blk (below_blk ((Below.refl _ _).alloc (Nat.le_refl _) _) HP1.out.1) (fun e => HP1.out.2.2 e)))))
      go_roundw
      case rel => exact ⟨m + 1, Y / 256, by omega, by go_num, by go_num, hY2, Pens.trans ht1 hl1 (by have h := Pens.appended HP1.out ((Below.refl _ _).alloc (Nat.le_refl _) _) ht5 ho5 hl5; rw [show L3 = l ++ M.leB (m + 1) X by rw [HL3.out, hcn.out]; exact hL2.out] at h ⊢; exact h)⟩
      case measure => simp [intOf]; omega
    · have e : m = k := by omega
      subst e
      go_wp2
      go_end0
      exact ⟨rfl, Pens.trans (Turned.ofBelow (below_next hb1 hb2)) (fun j hj => .inl hj) hpr⟩
theorem Pens.spoilt {w w1 : World} {N : Nat} {v : Value} {l : List Nat} {bad : Bool} (h : PenB w N v l bad) (hb : Below w.heap.size w w1) : Pens N v w (w1.setCell ⟨N, 1, none⟩ (.bool true)) l true :=
  ⟨v, (h.grow hb).spoil, (Turned.ofBelow hb).setCell (p := ⟨N, 1, none⟩) (.inl (.inl rfl)) _, fun _ h => .inl h⟩
set_option maxRecDepth 100000 in
set_option maxHeartbeats 400000 in
theorem penNum_not (N : Nat) (k x : Int) (hk : M.fits k x = false) (hx1 : -9223372036854775808 ≤ x) (hx2 : x < 9223372036854775808) (w : World) (v : Value) (l : List Nat) (bad : Bool) (hp : PenB w N v l bad) :
    Calls Try.prog 55 #[.pointer (some ⟨N, 0, none⟩), .int .i64 k, .int .i64 x] w fun e w' => e = .returned (.tuple #[]) ∧ Pens N v w w' l true := by
  have HP := hid hp
  have HX1 := hid hx1
  have HX2 := hid hx2
  clear hx1 hx2
  by_cases hw : 1 ≤ k ∧ k ≤ 7
  · have hwid : ∀ n : Nat, M.WidthOf x n → decide (k < (n : Int)) = true := fun n hn => by
      have := (M.width_lt hn k hw.1 hw.2)
      rw [hk] at this
      simp at this ⊢; omega
    have HWID := hid hwid
    have HK := hid hw
    clear hwid hw hk hp
    go_enter Try.func55, Try.ntmps55
    go_wp2_with (first | (go_at_call 80; refine (within_yes _ HK.out.1 HK.out.2 _).mono ?_; rintro e w1 ⟨rfl, hb1⟩) | (go_at_call 44; refine (width_calls _ HX1.out HX2.out _).mono ?_; rintro e w2 ⟨⟨n, rfl, hn⟩, hb2⟩; have tn := HWID.out n hn; clear hn; have hb := below_next hb1 hb2; have hf := frozen_of_row _ N 1 _ 63 (below_blk hb HP.out.1); have hc := cell_of_row _ N 1 _ 63 _ (below_blk hb HP.out.1)))
    refine bodyPost_ret (results_none rfl _ _ _) rfl ?_
    exact ⟨rfl, Pens.spoilt HP.out hb⟩
  · have HK := hid hw
    clear hw hk hp
    go_enter Try.func55, Try.ntmps55
    go_wp2_with (first | (go_at_call 80; refine (within_no _ HK.out _).mono ?_; rintro e w1 ⟨rfl, hb⟩; have hf := frozen_of_row _ N 1 _ 63 (below_blk hb HP.out.1); have hc := cell_of_row _ N 1 _ 63 _ (below_blk hb HP.out.1)))
    refine bodyPost_ret (results_none rfl _ _ _) rfl ?_
    exact ⟨rfl, Pens.spoilt HP.out hb⟩
set_option maxRecDepth 100000 in
theorem penBytes_calls (N : Nat) (a : Option Addr) (l2 : List Nat) (c : Nat) (w : World) (v : Value) (l l3 : List Nat) (h3 : l ++ l2 = l3) (bad : Bool) (hp : PenB w N v l bad) (hh : HasB w a l2) (hl : l3.length ≤ 1000000) :
    Calls Try.prog 50 #[.pointer (some ⟨N, 0, none⟩), .slice a l2.length c] w fun e w' => e = .returned (.tuple #[]) ∧ Pens N v w w' l3 bad := by
  have HP := hid hp
  have hcell := hp.cell0
  have hfree := hp.free
  clear hp
  have H3 := hid h3
  clear h3
  go_enter Try.func50, Try.ntmps50
  go_wp2_with (first | ((with_reducible show wpList _ _ _ (⟨some 10, _, _, _, _, _⟩ :: _) _ _); refine wpList_append_loc 10 rfl rfl _ _ rfl 0 _ l l2 l3 H3.out (by rfl) HP.out.2.1 a c (by rfl) hh hl (Nat.zero_le _) ?_; intro av cv w5 ho5 hcv5 hh5 ht5 hl5; have hfree5 := frozen_of_row _ N 0 _ 63 (ht5.blk HP.out.1 (fun e => HP.out.2.2 e)); have hcell5 := cell_of_row _ N 0 _ 63 _ (ht5.blk HP.out.1 (fun e => HP.out.2.2 e))))
  go_end0
  exact ⟨rfl, Pens.appended HP.out (Below.refl _ _) ht5 ho5 hl5⟩
set_option maxRecDepth 100000 in
theorem penOut_bad (N : Nat) (w : World) (v : Value) (l : List Nat) (hp : PenB w N v l true) :
    Calls Try.prog 51 #[.pointer (some ⟨N, 0, none⟩)] w fun e w' => e = .returned (.tuple #[.slice none 0 0, .int .i64 13]) ∧ Below w.heap.size w w' := by
  have hcell := hp.cell1
  go_enter Try.func51, Try.ntmps51
  go_wp2
  go_ret2
  exact ⟨rfl, Below.refl _ _⟩
set_option maxRecDepth 100000 in
theorem penOut_good (N : Nat) (w : World) (v : Value) (l : List Nat) (hp : PenB w N v l false) (hl : l.length ≤ 1000000) :
    Calls Try.prog 51 #[.pointer (some ⟨N, 0, none⟩)] w fun e w' => (∃ a cap, e = .returned (.tuple #[.slice a l.length cap, .int .i64 0]) ∧ OwnB w' w.heap.size (.slice a l.length cap) l ∧ l.length ≤ cap ∧ HasB w' a l) ∧ Below w.heap.size w w' := by
  have HP := hid hp
  have hcell := hp.cell1
  obtain ⟨a1, c1, rfl, hc1, hh1⟩ := hp.has
  go_enter Try.func51, Try.ntmps51
  go_wp2_with (first | ((with_reducible show wpList _ _ _ (⟨some 8, _, _, _, _, _⟩ :: _) _ _); refine wpList_empty 8 rfl rfl rfl ?_; intro W v8 ho8 hb8; have hcell0 := (HP.out.grow hb8).cell0) | ((with_reducible show wpList _ _ _ (⟨some 13, _, _, _, _, _⟩ :: _) _ _); refine wpList_append_at 13 rfl rfl _ _ rfl w.heap.size _ [] l l rfl (by rfl) ho8 a1 c1 (by rfl) (hh1.below hb8) hl hb8.size ?_; intro av cv w5 ho5 hcv5 hh5 hb5))
  go_ret2
  exact ⟨⟨av, cv, rfl, ho5, hcv5, hh5⟩, hb8.trans hb5⟩
end Go.Proofs.Ytncooadaeifekaa

/- Walk of layer 2's anchor. -/
namespace Go.Proofs.Ytncooadaeifekaa
open Go.RowKit
theorem penB_new (w : World) : PenB (w.alloc (.cells #[.slice none 0 0, .bool false] 63)) w.heap.size (.slice none 0 0) [] false :=
  ⟨heap_alloc_new w _, ownB_nil _ _, by simp [Value.ownBlock]⟩
theorem below_pens {w w1 w2 : World} {N : Nat} {v : Value} {l : List Nat} {bad : Bool} (hb : Below w.heap.size w w1) (hN : w.heap.size ≤ N) (hv : ∀ k, v.ownBlock = some k → w.heap.size ≤ k) (h : Pens N v w1 w2 l bad) : Below w.heap.size w w2 := by
  obtain ⟨v', hp, ht, hl⟩ := h
  refine hb.trans (ht.below _ hb.size ?_)
  rintro k (rfl | hk)
  · exact hN
  · exact hv k hk
theorem two_one : [] ++ M.leB 2 258 = [2, 1] := by decide
set_option maxRecDepth 100000 in
set_option maxHeartbeats 400000 in
theorem anchor2_calls (w : World) :
    Calls Try.prog 43 #[] w fun e w' => e = .returned (.bool true) ∧ Below w.heap.size w w' := by
  have hp0 := penB_new w
  have hb0 : Below w.heap.size w (w.alloc (.cells #[.slice none 0 0, .bool false] 63)) := (Below.refl _ _).alloc (Nat.le_refl _) _
  go_enter Try.func43, Try.ntmps43
  go_wp2_with (first | (go_at_call 55; refine (penNum_fits w.heap.size 2 258 (by decide) _ _ [] false hp0 (by simp)).mono ?_; rintro e w1 ⟨rfl, hp1⟩; rw [two_one] at hp1; have hb1 := below_pens hb0 (Nat.le_refl _) (by simp [Value.ownBlock]) hp1; obtain ⟨v1, hq1, _, _⟩ := hp1) | (go_at_call 51; refine (penOut_good w.heap.size _ v1 [2, 1] hq1 (by simp)).mono ?_; rintro e w2 ⟨⟨a2, c2, rfl, ho2, hc2, hh2⟩, hb2⟩; have hb12 := below_nextB hb1 hb2 hb1.size) | (go_at_call 48; refine (same_calls a2 [2, 1] c2 _ [2, 1] 2 _ (hh2.below ((Below.refl _ _).alloc (Nat.le_refl _) _)) (hasB_new w2 [2, 1] (by decide) (0, 0)) (by simp) (by simp)).mono ?_; rintro e w3 ⟨rfl, hb3⟩))
  go_ret
  exact ⟨rfl, (hb12.alloc hb12.size _).trans (hb3.mono (by have := hb12.size; simp; omega))⟩
end Go.Proofs.Ytncooadaeifekaa

/- A statement that draws its order, said by what each operation's value is good for: whatever order is drawn, each operation finds what it looks at, and the memory only grows. -/
namespace Go.Proofs.Ytncooadaeifekaa
open Go.RowKit
section
variable {P : Program} {ops : Array Oper}
def upTo (P : Program) (w : World) (φ : Value → World → Prop) : Result Next → Prop
  | .ok (.value v) w' => Below w.heap.size w w' ∧ φ v w'
  | .ok .skip w' => Below w.heap.size w w' ∧ φ undef w'
  | .ok (.enter f args) w' => Below w.heap.size w w' ∧ Calls P f args w' (fun e w'' => ∃ v, e = .returned v ∧ Below w.heap.size w w'' ∧ φ v w'')
  | _ => False
def Grows (P : Program) (o : Oper) (a : Act) (w : World) (φ : Value → World → Prop) : Prop := upTo P w φ ((execOp a.eval o).run P w)
theorem wp_of_grows {o : Oper} {a : Act} {w : World} {φ : Value → World → Prop} {K : Act → World → Prop} {Q : Exit → Act → World → Prop} (h : Grows P o a w φ)
    (hK : ∀ v w', Below w.heap.size w w' → φ v w' → K (a.put o.dst v) w') : o.wp P a w K Q := by
  unfold Grows at h
  unfold Oper.wp
  generalize (execOp a.eval o).run P w = r at *
  cases r with
  | ok n w' =>
    cases n <;> simp only [upTo] at h <;> simp only [Oper.upon]
    case value v => exact hK _ _ h.1 h.2
    case skip => exact hK _ _ h.1 h.2
    case enter f args => exact h.2.mono fun e w'' ⟨v, he, h1, h2⟩ => by subst he; exact hK _ _ h1 h2
  | halt x w' => simp only [upTo] at h
/-- the operations' slots are unlike; each slot that is looked at and written here is written by an operation that must come before; edges lead back -/
def flowB (ops : Array Oper) (n : Nat) : Bool :=
  (List.range ops.size).all fun i => match ops[i]? with
    | none => false
    | some o =>
      (o.after.all fun e => !Region.binds .any e || decide (e.on < i)) &&
      (match o.dst with | some d => decide (d < n) && ((List.range ops.size).all fun j => j == i || match ops[j]? with | some oj => oj.dst != some d | none => true) | none => true) &&
      ((o.looksAt ops).all fun t => (List.range ops.size).all fun j => match ops[j]? with
        | some oj => oj.dst != some t || o.after.any fun e => Region.binds .any e && e.on == j
        | none => true)
structure Flows (ops : Array Oper) (n : Nat) : Prop where
  back : ∀ (i : Nat) (o : Oper), ops[i]? = some o → ∀ e ∈ o.after, Region.binds .any e = true → e.on < i
  room : ∀ (i : Nat) (o : Oper) (d : Tmp), ops[i]? = some o → o.dst = some d → d < n
  unlike : ∀ (i : Nat) (o : Oper) (d : Tmp), ops[i]? = some o → o.dst = some d → ∀ (j : Nat) (oj : Oper), ops[j]? = some oj → oj.dst = some d → j = i
  looks : ∀ (i : Nat) (o : Oper), ops[i]? = some o → ∀ t ∈ o.looksAt ops, ∀ (j : Nat) (oj : Oper), ops[j]? = some oj → oj.dst = some t → ∃ e ∈ o.after, Region.binds .any e = true ∧ e.on = j
theorem flows_of {n : Nat} (h : flowB ops n = true) : Flows ops n := by
  have key : ∀ (i : Nat) (o : Oper), ops[i]? = some o →
      ((o.after.all fun e => !Region.binds .any e || decide (e.on < i)) = true ∧
      (match o.dst with | some d => decide (d < n) && ((List.range ops.size).all fun j => j == i || match ops[j]? with | some oj => oj.dst != some d | none => true) | none => true) = true) ∧
      ((o.looksAt ops).all fun t => (List.range ops.size).all fun j => match ops[j]? with
        | some oj => oj.dst != some t || o.after.any fun e => Region.binds .any e && e.on == j
        | none => true) = true := by
    intro i o ho
    have hi : i < ops.size := (Array.getElem?_eq_some_iff.1 ho).1
    have h1 := List.all_eq_true.1 h i (List.mem_range.2 hi)
    rw [ho] at h1
    simpa only [Bool.and_eq_true] using h1
  refine ⟨?_, ?_, ?_, ?_⟩
  · intro i o ho e he hb
    have h1 := Array.all_eq_true_iff_forall_mem.1 (key i o ho).1.1 e he
    rw [hb] at h1
    simpa using h1
  · intro i o d ho hd
    have h1 := (key i o ho).1.2
    rw [hd] at h1
    simp only [Bool.and_eq_true, decide_eq_true_eq] at h1
    exact h1.1
  · intro i o d ho hd j oj hj hjd
    have h1 := (key i o ho).1.2
    rw [hd] at h1
    simp only [Bool.and_eq_true] at h1
    have h2 := List.all_eq_true.1 h1.2 j (List.mem_range.2 (Array.getElem?_eq_some_iff.1 hj).1)
    rw [hj] at h2
    simpa [hjd] using h2
  · intro i o ho t ht j oj hj hjd
    have h1 := List.all_eq_true.1 (key i o ho).2 t ht
    have h2 := List.all_eq_true.1 h1 j (List.mem_range.2 (Array.getElem?_eq_some_iff.1 hj).1)
    rw [hj] at h2
    simp only [hjd, bne_self_eq_false, Bool.false_or] at h2
    obtain ⟨e, he, h3⟩ := Array.any_eq_true'.1 h2
    simp only [Bool.and_eq_true, beq_iff_eq] at h3
    exact ⟨e, he, h3.1, h3.2⟩
/-- what holds while the region is on its way -/
structure Flow (ops : Array Oper) (σ : Nat → Value → World → Prop) (a0 : Act) (w0 : World) (listed : Array Bool) (a : Act) (w : World) : Prop where
  below : Below w0.heap.size w0 w
  size : a.tmps.size = a0.tmps.size
  defers : a.defers = a0.defers
  same : ∀ t, (∀ (j : Nat) (oj : Oper), ops[j]? = some oj → oj.dst ≠ some t) → a.tmps[t]? = a0.tmps[t]?
  held : ∀ (j : Nat) (oj : Oper) (d : Tmp), ops[j]? = some oj → oj.dst = some d → listed.getD j false = true → σ j (a.tmps.getD d undef) w
/-- what is owed of one operation -/
def Obl (P : Program) (ops : Array Oper) (σ : Nat → Value → World → Prop) (a0 : Act) (w0 : World) (i : Nat) (o : Oper) : Prop :=
  ∀ a w, Below w0.heap.size w0 w →
    (∀ t, (∀ (j : Nat) (oj : Oper), ops[j]? = some oj → oj.dst ≠ some t) → a.tmps.getD t undef = a0.tmps.getD t undef) →
    (∀ t ∈ o.looksAt ops, ∀ (j : Nat) (oj : Oper), ops[j]? = some oj → oj.dst = some t → σ j (a.tmps.getD t undef) w) →
    if Region.wanted o (yielded ops a.tmps) then Grows P o a w (σ i) else σ i undef w
def unlisted (ops : Array Oper) (listed : Array Bool) : Nat := (List.range ops.size).countP fun i => !listed.getD i true
theorem unlisted_zero {listed : Array Bool} (hs : listed.size = ops.size) (h : unlisted ops listed = 0) (i : Nat) (hi : i < ops.size) : listed.getD i false = true := by
  have h1 := List.countP_eq_zero.1 h i (List.mem_range.2 hi)
  simp only [Bool.not_eq_true, Bool.not_eq_false'] at h1
  rw [Array.getD_eq_getD_getElem?, Array.getElem?_eq_getElem (by omega)] at *
  simpa using h1
theorem countP_set {l : List Nat} {p q : Nat → Bool} {i : Nat} (hn : l.Nodup) (hi : i ∈ l) (hp : p i = true) (hq : q i = false) (h : ∀ j, j ≠ i → p j = q j) : l.countP p = l.countP q + 1 := by
  induction l with
  | nil => cases hi
  | cons x l ih =>
    rw [List.nodup_cons] at hn
    by_cases hx : x = i
    · subst hx
      rw [List.countP_cons_of_pos hp, List.countP_cons_of_neg (by simp [hq])]
      congr 1
      apply List.countP_congr
      intro j hj
      rw [h j (fun e => hn.1 (e ▸ hj))]
    · have hi' : i ∈ l := by
        rcases List.mem_cons.1 hi with e | e
        · exact absurd e.symm hx
        · exact e
      have := ih hn.2 hi'
      have hpq := h x hx
      rw [List.countP_cons, List.countP_cons, this, hpq]
      omega
theorem unlisted_step {listed : Array Bool} (hs : listed.size = ops.size) (i : Nat) (hi : i < ops.size) (hl : listed.getD i true = false) :
    unlisted ops listed = unlisted ops (listed.setIfInBounds i true) + 1 := by
  unfold unlisted
  refine countP_set (i := i) List.nodup_range (List.mem_range.2 hi) (by rw [hl]; rfl) ?_ ?_
  · simp [Array.getD_eq_getD_getElem?, hs, hi]
  · intro j hj
    rw [getD_set_ne true (fun e => hj e.symm)]
theorem ready_nil {n : Nat} (hF : Flows ops n) {listed : Array Bool} (hs : listed.size = ops.size) (h : Region.ready .any ops listed = []) : ∀ i, i < ops.size → listed.getD i false = true := by
  intro i
  induction i using Nat.strongRecOn with
  | ind i ih =>
    intro hi
    by_cases hl : listed.getD i true = true
    · rw [Array.getD_eq_getD_getElem?, Array.getElem?_eq_getElem (by omega)] at *
      simpa using hl
    · have hm : i ∈ Region.ready .any ops listed := by
        rw [mem_ready]
        refine ⟨by simpa using hl, ops[i], Array.getElem?_eq_getElem hi, fun e he hb => ?_⟩
        have := hF.back i ops[i] (Array.getElem?_eq_getElem hi) e he hb
        exact ih e.on this (by omega)
      rw [h] at hm
      cases hm
theorem flow_any {σ : Nat → Value → World → Prop} {a0 : Act} {w0 : World} {Q : Exit → Act → World → Prop} (hF : Flows ops a0.tmps.size)
    (hst : ∀ j v w w', Below w0.heap.size w0 w → σ j v w → Below w.heap.size w w' → σ j v w')
    (hobl : ∀ (i : Nat) (o : Oper), ops[i]? = some o → Obl P ops σ a0 w0 i o)
    (hQ : ∀ a w, Below w0.heap.size w0 w → a.tmps.size = a0.tmps.size → a.defers = a0.defers → (∀ t, (∀ (j : Nat) (oj : Oper), ops[j]? = some oj → oj.dst ≠ some t) → a.tmps[t]? = a0.tmps[t]?) →
      (∀ (j : Nat) (oj : Oper) (d : Tmp), ops[j]? = some oj → oj.dst = some d → σ j (a.tmps.getD d undef) w) → Q .normal a w) :
    ∀ (fuel : Nat) (listed : Array Bool) (a : Act) (w : World), listed.size = ops.size → unlisted ops listed ≤ fuel → Flow ops σ a0 w0 listed a w → wpAny P .any ops Q fuel listed a w := by
  have fin : ∀ (listed : Array Bool) (a : Act) (w : World), (∀ i, i < ops.size → listed.getD i false = true) → Flow ops σ a0 w0 listed a w → Q .normal a w := fun listed a w hall h =>
    hQ a w h.below h.size h.defers h.same fun j oj d hj hd => h.held j oj d hj hd (hall j (Array.getElem?_eq_some_iff.1 hj).1)
  intro fuel
  induction fuel with
  | zero =>
    intro listed a w hs hu h
    have hall := unlisted_zero (ops := ops) hs (by omega)
    refine ⟨?_, fin listed a w hall h⟩
    rcases hr : Region.ready .any ops listed with _ | ⟨x, xs⟩
    · rfl
    · have hm : x ∈ Region.ready .any ops listed := by rw [hr]; simp
      obtain ⟨h1, o, ho, _⟩ := mem_ready.1 hm
      have h2 := hall x (Array.getElem?_eq_some_iff.1 ho).1
      rw [Array.getD_eq_getD_getElem?, Array.getElem?_eq_getElem (by have := (Array.getElem?_eq_some_iff.1 ho).1; omega)] at h1 h2
      simp only [Option.getD_some] at h1 h2
      rw [h1] at h2
      cases h2
  | succ fuel ih =>
    intro listed a w hs hu h
    refine ⟨fun h0 => fin listed a w (ready_nil hF hs h0) h, fun i hi => ?_⟩
    obtain ⟨hl, o, ho, hall⟩ := mem_ready.1 hi
    have hilt := (Array.getElem?_eq_some_iff.1 ho).1
    have hu' : unlisted ops (listed.setIfInBounds i true) ≤ fuel := by
      have := unlisted_step (ops := ops) hs i hilt hl
      omega
    have hget : ∀ t, (∀ (j : Nat) (oj : Oper), ops[j]? = some oj → oj.dst ≠ some t) → a.tmps.getD t undef = a0.tmps.getD t undef := fun t ht => by
      rw [Array.getD_eq_getD_getElem?, Array.getD_eq_getD_getElem?, h.same t ht]
    have hob := hobl i o ho a w h.below hget (fun t ht j oj hj hd => by
      obtain ⟨e, he, hb, hon⟩ := hF.looks i o ho t ht j oj hj hd
      exact h.held j oj t hj hd (by rw [← hon]; exact hall e he hb))
    have next : ∀ v w', Below w.heap.size w w' → σ i v w' → wpAny P .any ops Q fuel (listed.setIfInBounds i true) (a.put o.dst v) w' := fun v w' hb hv => by
      refine ih _ _ _ (by simpa using hs) hu' ⟨below_next h.below hb, ?_, ?_, ?_, ?_⟩
      · cases hd : o.dst <;> simp [Act.put, h.size]
      · cases hd : o.dst <;> simp [Act.put, h.defers]
      · intro t ht
        cases hd : o.dst with
        | none => exact h.same t ht
        | some d =>
          have hne : d ≠ t := fun e => ht i o ho (by rw [hd, e])
          simp only [Act.put, Array.getElem?_setIfInBounds_ne hne]
          exact h.same t ht
      · intro j oj d hj hd hlj
        by_cases hji : j = i
        · subst hji
          rw [ho] at hj
          obtain rfl : o = oj := by simpa using hj
          have hroom := hF.room j o d ho hd
          rw [hd]
          simp only [Act.put, Array.getD_eq_getD_getElem?]
          rw [Array.getElem?_setIfInBounds_self_of_lt (by rw [h.size]; exact hroom)]
          exact hv
        · have hlj' : listed.getD j false = true := by rw [getD_set_ne false (fun e => hji e.symm)] at hlj; exact hlj
          have hold := h.held j oj d hj hd hlj'
          have hgd : (a.put o.dst v).tmps.getD d undef = a.tmps.getD d undef := by
            cases hdi : o.dst with
            | none => rfl
            | some di =>
              have hne : di ≠ d := fun e => hji (hF.unlike i o d ho (by rw [hdi, e]) j oj hj hd)
              simp only [Act.put, Array.getD_eq_getD_getElem?, Array.getElem?_setIfInBounds_ne hne]
          rw [hgd]
          exact hst j _ w w' h.below hold hb
    unfold wpOp
    simp only [ho]
    split
    · next hw =>
      rw [if_pos hw] at hob
      exact .inl (wp_of_grows hob next)
    · next hw =>
      rw [if_neg hw] at hob
      exact next undef w (Below.refl _ _) hob
theorem wp_region_flow {id : Nat} {σ : Nat → Value → World → Prop} {a0 : Act} {w0 : World} {Q : Exit → Act → World → Prop} (hm : P.follows .mixedOrders = true) (hB : flowB ops a0.tmps.size = true)
    (hst : ∀ j v w w', Below w0.heap.size w0 w → σ j v w → Below w.heap.size w w' → σ j v w')
    (hobl : ∀ (i : Nat) (o : Oper), ops[i]? = some o → Obl P ops σ a0 w0 i o)
    (hQ : ∀ a w, Below w0.heap.size w0 w → a.tmps.size = a0.tmps.size → a.defers = a0.defers → (∀ t, (∀ (j : Nat) (oj : Oper), ops[j]? = some oj → oj.dst ≠ some t) → a.tmps[t]? = a0.tmps[t]?) →
      (∀ (j : Nat) (oj : Oper) (d : Tmp), ops[j]? = some oj → oj.dst = some d → σ j (a.tmps.getD d undef) w) → Q .normal a w) : (Code.region id ops true).wp P Q a0 w0 := by
  refine wp_region_any hm (flow_any (flows_of hB) hst hobl hQ _ _ _ _ (by simp) ?_ ?_)
  · unfold unlisted
    exact Nat.le_trans List.countP_le_length (by simp)
  · refine ⟨⟨rfl, rfl, rfl, Nat.le_refl _, fun _ _ => rfl⟩, rfl, rfl, fun _ _ => rfl, fun j oj d hj _ hl => ?_⟩
    have hj' := (Array.getElem?_eq_some_iff.1 hj).1
    simp [Array.getD_eq_getD_getElem?, hj'] at hl
end
end Go.Proofs.Ytncooadaeifekaa

/- The law of a statement that draws its order, in the form in which walks use it: the frame that stands behind it is written out once, slots of new memory apart, and each operation is asked in that frame. -/
namespace Go.Proofs.Ytncooadaeifekaa
open Go.RowKit
/-- the frame behind operations that yielded these values -/
def putAll : List Oper → List Value → Act → Act
  | o :: os, v :: vs, a => putAll os vs (a.put o.dst v)
  | _, _, a => a
/-- what is known of each value: none: it is the one that is told -/
abbrev Spec := List (Option (Value → World → Prop))
def known (spec : Spec) (vals : List Value) (i : Nat) (v : Value) (w : World) : Prop :=
  match spec.getD i none with
  | none => v = vals.getD i undef
  | some S => S v w
def each : Spec → List Value → World → (List Value → Prop) → Prop
  | none :: sp, v :: vals, w, K => each sp vals w (fun r => K (v :: r))
  | some S :: sp, _ :: vals, w, K => ∀ x, S x w → each sp vals w (fun r => K (x :: r))
  | [], [], _, K => K []
  | _, _, _, _ => False
theorem each_use : ∀ (spec : Spec) (vals vs : List Value) (w : World) (K : List Value → Prop), each spec vals w K → vs.length = vals.length → (∀ i, i < vals.length → known spec vals i (vs.getD i undef) w) → K vs
  | none :: sp, v :: vals, [], w, K, _, hl, _ => by simp at hl
  | none :: sp, v :: vals, x :: vs, w, K, h, hl, hk => by
    have h0 := hk 0 (by simp)
    simp [known] at h0
    subst h0
    refine each_use sp vals vs w (fun r => K (x :: r)) h (by simpa using hl) fun i hi => ?_
    have := hk (i + 1) (by simp; omega)
    simpa [known] using this
  | some S :: sp, v :: vals, [], w, K, _, hl, _ => by simp at hl
  | some S :: sp, v :: vals, x :: vs, w, K, h, hl, hk => by
    have h0 := hk 0 (by simp)
    simp [known] at h0
    refine each_use sp vals vs w (fun r => K (x :: r)) (h x h0) (by simpa using hl) fun i hi => ?_
    have := hk (i + 1) (by simp; omega)
    simpa [known] using this
  | [], [], vs, w, K, h, hl, _ => by
    obtain rfl : vs = [] := List.eq_nil_of_length_eq_zero (by simpa using hl)
    exact h
  | [], _ :: _, _, _, _, h, _, _ => h.elim
  | none :: _, [], _, _, _, h, _, _ => h.elim
  | some _ :: _, [], _, _, _, h, _, _ => h.elim
section
variable {P : Program} {ops : Array Oper}
theorem size_putAll : ∀ (os : List Oper) (vs : List Value) (a : Act), (putAll os vs a).tmps.size = a.tmps.size
  | o :: os, v :: vs, a => by
    rw [putAll, size_putAll os vs]
    cases o.dst <;> simp [Act.put]
  | [], _, a => rfl
  | _ :: _, [], a => rfl
theorem defers_putAll : ∀ (os : List Oper) (vs : List Value) (a : Act), (putAll os vs a).defers = a.defers
  | o :: os, v :: vs, a => by
    rw [putAll, defers_putAll os vs]
    cases o.dst <;> simp [Act.put]
  | [], _, a => rfl
  | _ :: _, [], a => rfl
theorem putAll_other : ∀ (os : List Oper) (vs : List Value) (a : Act) (t : Tmp), (∀ o ∈ os, o.dst ≠ some t) → (putAll os vs a).tmps[t]? = a.tmps[t]?
  | o :: os, v :: vs, a, t, h => by
    rw [putAll, putAll_other os vs _ t (fun o' ho => h o' (by simp [ho]))]
    cases hd : o.dst with
    | none => rfl
    | some d =>
      have hne : d ≠ t := fun e => h o (by simp) (by rw [hd, e])
      simp [Act.put, Array.getElem?_setIfInBounds_ne hne]
  | [], _, a, t, _ => rfl
  | _ :: _, [], a, t, _ => rfl
theorem putAll_at : ∀ (os : List Oper) (vs : List Value) (a : Act) (i : Nat) (o : Oper) (d : Tmp), os.length = vs.length → os[i]? = some o → o.dst = some d → d < a.tmps.size →
    (∀ j oj, os[j]? = some oj → oj.dst = some d → j = i) → (putAll os vs a).tmps[d]? = some (vs.getD i undef)
  | [], _, _, i, o, d, _, hi, _, _, _ => by simp at hi
  | _ :: _, [], _, i, o, d, hl, _, _, _, _ => by simp at hl
  | o' :: os, v :: vs, a, 0, o, d, hl, hi, hd, hroom, hu => by
    obtain rfl : o' = o := by simpa using hi
    rw [putAll, putAll_other os vs _ d (fun o2 ho2 h2 => by
      obtain ⟨j, hj, hjo⟩ := List.mem_iff_getElem.1 ho2
      have := hu (j + 1) o2 (by simp [hj, hjo]) h2
      omega)]
    simp [hd, Act.put, hroom]
  | o' :: os, v :: vs, a, i + 1, o, d, hl, hi, hd, hroom, hu => by
    rw [putAll]
    have := putAll_at os vs (a.put o'.dst v) i o d (by simpa using hl) (by simpa using hi) hd (by cases o'.dst <;> simpa [Act.put] using hroom) (fun j oj hj hjd => by
      have := hu (j + 1) oj (by simpa using hj) hjd
      omega)
    rw [this]
    simp
/-- the slots of new memory that an operation looks at -/
def newsOf (ops : Array Oper) (spec : Spec) (o : Oper) : List Nat :=
  (List.range ops.size).filter fun j => (spec.getD j none).isSome && match (ops[j]?).bind (·.dst) with | some d => (o.looksAt ops).contains d | none => false
theorem newsOf_nil {spec : Spec} {o : Oper} (h : newsOf ops spec o = []) (t : Tmp) (ht : t ∈ o.looksAt ops) (j : Nat) (oj : Oper) (hj : ops[j]? = some oj) (hd : oj.dst = some t) : spec.getD j none = none := by
  have h1 := List.filter_eq_nil_iff.1 h j (List.mem_range.2 (Array.getElem?_eq_some_iff.1 hj).1)
  cases hs : spec.getD j none with
  | none => rfl
  | some S => rw [hs] at h1; simp [hj, hd, ht] at h1
theorem newsOf_one {spec : Spec} {o : Oper} {k : Nat} (h : newsOf ops spec o = [k]) (t : Tmp) (ht : t ∈ o.looksAt ops) (j : Nat) (oj : Oper) (hj : ops[j]? = some oj) (hd : oj.dst = some t) : spec.getD j none = none ∨ j = k := by
  cases hs : spec.getD j none with
  | none => exact .inl rfl
  | some S =>
    right
    have h1 : j ∈ newsOf ops spec o := by
      unfold newsOf
      rw [List.mem_filter]
      refine ⟨List.mem_range.2 (Array.getElem?_eq_some_iff.1 hj).1, ?_⟩
      rw [hs]; simp [hj, hd, ht]
    rw [h] at h1
    simpa using h1
theorem same_op {o : Oper} (hs : ∀ cs b, o.op ≠ .select cs b) {a b : Act} (h : ∀ t ∈ o.looksAt ops, a.tmps[t]?.getD undef = b.tmps[t]?.getD undef) : execOp a.eval o = execOp b.eval o := by
  refine execOp_congr o hs fun x hx => ?_
  cases x with
  | tmp t =>
    have ht : t ∈ o.looksAt ops := List.mem_append_left _ (List.mem_filterMap.2 ⟨.tmp t, by simpa using hx, rfl⟩)
    simpa [Act.eval, Array.getD_eq_getD_getElem?] using h t ht
  | _ => rfl
def boolIn : Option Value → Option Bool
  | some (.bool b) => some b
  | _ => none
theorem bool_of (x y : Option Value) (h : x.getD undef = y.getD undef) : boolIn x = boolIn y := by
  cases x with
  | none =>
    cases y with
    | none => rfl
    | some v => simp only [Option.getD_none, Option.getD_some] at h; subst h; rfl
  | some u =>
    cases y with
    | none => simp only [Option.getD_none, Option.getD_some] at h; subst h; rfl
    | some v => simp only [Option.getD_some] at h; subst h; rfl
theorem same_wanted {o : Oper} {a b : Act} (h : ∀ t ∈ o.looksAt ops, a.tmps[t]?.getD undef = b.tmps[t]?.getD undef) :
    Region.wanted o (yielded ops a.tmps) = Region.wanted o (yielded ops b.tmps) := by
  unfold Region.wanted
  cases hg : o.guard with
  | none => rfl
  | some gw =>
    obtain ⟨g, want⟩ := gw
    have hy : yielded ops a.tmps g = yielded ops b.tmps g := by
      unfold yielded
      cases ht : (ops[g]?).bind (·.dst) with
      | none => rfl
      | some t =>
        have h1 := h t (by simp [Oper.looksAt, hg, ht])
        exact bool_of _ _ h1
    simp only [hy]
theorem look_same {spec : Spec} {vals : List Value} {a0 a : Act} {w : World} (hF : Flows ops a0.tmps.size) (hlen : ops.size = vals.length) {o : Oper}
    (hs : ∀ t, (∀ (j : Nat) (oj : Oper), ops[j]? = some oj → oj.dst ≠ some t) → a.tmps.getD t undef = a0.tmps.getD t undef)
    (hd : ∀ t ∈ o.looksAt ops, ∀ (j : Nat) (oj : Oper), ops[j]? = some oj → oj.dst = some t → known spec vals j (a.tmps.getD t undef) w)
    (t : Tmp) (ht : t ∈ o.looksAt ops) (hn : ∀ (j : Nat) (oj : Oper), ops[j]? = some oj → oj.dst = some t → spec.getD j none = none) :
    a.tmps[t]?.getD undef = (putAll ops.toList vals a0).tmps[t]?.getD undef := by
  by_cases hex : ∃ (j : Nat) (oj : Oper), ops[j]? = some oj ∧ oj.dst = some t
  · obtain ⟨j, oj, hj, hjd⟩ := hex
    have h1 := hd t ht j oj hj hjd
    unfold known at h1
    rw [hn j oj hj hjd] at h1
    rw [putAll_at ops.toList vals a0 j oj t (by simpa using hlen) (by simpa using hj) hjd (hF.room j oj t hj hjd) (fun k ok hk hkd => hF.unlike j oj t hj hjd k ok (by simpa using hk) hkd)]
    rw [Array.getD_eq_getD_getElem?] at h1
    simpa using h1
  · have hno : ∀ (j : Nat) (oj : Oper), ops[j]? = some oj → oj.dst ≠ some t := fun j oj hj hjd => hex ⟨j, oj, hj, hjd⟩
    have h1 := hs t hno
    rw [putAll_other ops.toList vals a0 t (fun o2 ho2 => by
      obtain ⟨j, hj, hjo⟩ := List.mem_iff_getElem.1 ho2
      exact hno j o2 (by rw [← Array.getElem?_toList, List.getElem?_eq_getElem hj, hjo]))]
    simpa [Array.getD_eq_getD_getElem?] using h1
/-- an operation that looks at no new memory is asked in the frame that stands behind the statement -/
theorem obl_det {spec : Spec} {vals : List Value} {a0 : Act} {w0 : World} (hF : Flows ops a0.tmps.size) (hlen : ops.size = vals.length) (hns : Region.noSelect ops = true) {i : Nat} {o : Oper} (ho : ops[i]? = some o)
    (hn : newsOf ops spec o = [])
    (h : ∀ w, Below w0.heap.size w0 w → if Region.wanted o (yielded ops (putAll ops.toList vals a0).tmps) then Grows P o (putAll ops.toList vals a0) w (known spec vals i) else known spec vals i undef w) :
    Obl P ops (known spec vals) a0 w0 i o := by
  intro a w hb hs hd
  have heq := fun t ht => look_same hF hlen hs hd t ht (fun j oj hj hjd => newsOf_nil hn t ht j oj hj hjd)
  have h2 := h w hb
  unfold Grows at *
  rw [← same_op (Region.noSelect_spec hns i o · · ho) heq, ← same_wanted heq] at h2
  exact h2
/-- an operation that looks at one slot of new memory: whatever it holds that is known to be good -/
theorem obl_one {spec : Spec} {vals : List Value} {a0 : Act} {w0 : World} (hF : Flows ops a0.tmps.size) (hlen : ops.size = vals.length) (hns : Region.noSelect ops = true) {i : Nat} {o : Oper} (ho : ops[i]? = some o)
    (k : Nat) (hn : newsOf ops spec o = [k]) (t : Tmp) (S : Value → World → Prop) (hS : spec.getD k none = some S) (hk : (ops[k]?).bind (·.dst) = some t)
    (h : ∀ w x, Below w0.heap.size w0 w → S x w → if Region.wanted o (yielded ops ((putAll ops.toList vals a0).put (some t) x).tmps) then Grows P o ((putAll ops.toList vals a0).put (some t) x) w (known spec vals i) else known spec vals i undef w) :
    Obl P ops (known spec vals) a0 w0 i o := by
  intro a w hb hs hd
  obtain ⟨ok, hok, hkd⟩ := Option.bind_eq_some_iff.1 hk
  have hmem : k ∈ newsOf ops spec o := by rw [hn]; simp
  have htl : t ∈ o.looksAt ops := by
    unfold newsOf at hmem
    rw [List.mem_filter] at hmem
    have := hmem.2
    rw [hk] at this
    simp only [Bool.and_eq_true, List.contains_iff_mem] at this
    exact this.2
  have hx := hd t htl k ok hok hkd
  have hx' : S (a.tmps.getD t undef) w := by unfold known at hx; rw [hS] at hx; exact hx
  have heq : ∀ u ∈ o.looksAt ops, a.tmps[u]?.getD undef = ((putAll ops.toList vals a0).put (some t) (a.tmps.getD t undef)).tmps[u]?.getD undef := fun u hu => by
    by_cases hut : u = t
    · subst hut
      have hroom := hF.room k ok u hok hkd
      simp only [Act.put]
      rw [Array.getElem?_setIfInBounds_self_of_lt (by rw [size_putAll]; exact hroom)]
      simp [Array.getD_eq_getD_getElem?]
    · have h1 := look_same hF hlen hs hd u hu (fun j oj hj hjd => by
        rcases newsOf_one hn u hu j oj hj hjd with h0 | h0
        · exact h0
        · subst h0
          rw [hok] at hj
          obtain rfl : ok = oj := by simpa using hj
          exact absurd (Option.some.inj (hjd.symm.trans hkd)) hut)
      rw [h1]
      simp only [Act.put, Array.getElem?_setIfInBounds_ne (Ne.symm hut)]
  have h2 := h w _ hb hx'
  unfold Grows at *
  rw [← same_op (Region.noSelect_spec hns i o · · ho) heq, ← same_wanted heq] at h2
  exact h2
def oblAll (P : Program) (ops : Array Oper) (σ : Nat → Value → World → Prop) (a0 : Act) (w0 : World) : List Oper → Nat → Prop
  | [], _ => True
  | o :: l, i => (ops[i]? = some o → Obl P ops σ a0 w0 i o) ∧ oblAll P ops σ a0 w0 l (i + 1)
theorem oblAll_use {σ : Nat → Value → World → Prop} {a0 : Act} {w0 : World} : ∀ (l : List Oper) (k : Nat), oblAll P ops σ a0 w0 l k → ∀ (i : Nat) (o : Oper), l[i]? = some o → (ops[k + i]? = some o → Obl P ops σ a0 w0 (k + i) o)
  | [], _, _, i, o, h => by simp at h
  | x :: l, k, ha, 0, o, h => by
    obtain rfl : x = o := by simpa using h
    exact ha.1
  | x :: l, k, ha, i + 1, o, h => by
    have := oblAll_use l (k + 1) ha.2 i o (by simpa using h)
    rwa [show k + 1 + i = k + (i + 1) by omega] at this
def stableS : Spec → Prop
  | [] => True
  | none :: l => stableS l
  | some S :: l => (∀ v w w', S v w → Below w.heap.size w w' → S v w') ∧ stableS l
theorem stable_use : ∀ (spec : Spec), stableS spec → ∀ i S, spec.getD i none = some S → ∀ v w w', S v w → Below w.heap.size w w' → S v w'
  | [], _, i, S, h => by simp at h
  | none :: l, hs, 0, S, h => by simp at h
  | none :: l, hs, i + 1, S, h => stable_use l hs i S (by simpa using h)
  | some T :: l, hs, 0, S, h => by
    obtain rfl : T = S := by simpa using h
    exact hs.1
  | some T :: l, hs, i + 1, S, h => stable_use l hs.2 i S (by simpa using h)
def bareB : List Oper → Spec → Bool
  | _ :: l, none :: sp => bareB l sp
  | o :: l, some _ :: sp => o.dst.isSome && bareB l sp
  | _, _ => true
theorem bare_use : ∀ (l : List Oper) (spec : Spec), bareB l spec = true → ∀ (i : Nat) (o : Oper), l[i]? = some o → o.dst = none → spec.getD i none = none
  | [], _, _, i, o, h, _ => by simp at h
  | _ :: _, [], _, i, o, _, _ => by simp
  | x :: l, none :: sp, hb, 0, o, h, _ => by simp
  | x :: l, none :: sp, hb, i + 1, o, h, hd => by
    have := bare_use l sp hb i o (by simpa using h) hd
    simpa using this
  | x :: l, some S :: sp, hb, 0, o, h, hd => by
    obtain rfl : x = o := by simpa using h
    simp [bareB, hd] at hb
  | x :: l, some S :: sp, hb, i + 1, o, h, hd => by
    simp only [bareB, Bool.and_eq_true] at hb
    have := bare_use l sp hb.2 i o (by simpa using h) hd
    simpa using this
/-- THE LAW -/
theorem wp_region_frame {id : Nat} {l : List Oper} {spec : Spec} {vals : List Value} {a0 : Act} {w0 : World} {Q : Exit → Act → World → Prop} (hm : P.follows .mixedOrders = true) (hB : flowB l.toArray a0.tmps.size = true)
    (hlen : l.length = vals.length) (hbare : bareB l spec = true) (hst : stableS spec)
    (hobl : Flows l.toArray a0.tmps.size → oblAll P l.toArray (known spec vals) a0 w0 l 0)
    (hQ : ∀ w, Below w0.heap.size w0 w → each spec vals w (fun vs => Q .normal (putAll l vs a0) w)) : (Code.region id l.toArray true).wp P Q a0 w0 := by
  have hF := flows_of hB
  refine wp_region_flow hm hB (σ := known spec vals) ?_ (fun i o ho => ?_) ?_
  · intro j v w w' _ hk hb
    unfold known at *
    cases hs : spec.getD j none with
    | none => rw [hs] at hk; exact hk
    | some S => rw [hs] at hk; exact stable_use spec hst j S hs v w w' hk hb
  · have := oblAll_use (ops := l.toArray) l 0 (hobl hF) i o (by simpa using ho)
    rw [Nat.zero_add] at this
    exact this ho
  · intro a w hb hsz hdf hsame hk
    obtain ⟨vs, hvs⟩ : ∃ vs : List Value, vs = (List.range l.length).map fun i => match (l[i]?).bind (·.dst) with | some d => a.tmps.getD d undef | none => vals.getD i undef := ⟨_, rfl⟩
    have hvl : vs.length = l.length := by simp [hvs]
    have hat : ∀ i, i < l.length → vs.getD i undef = match (l[i]?).bind (·.dst) with | some d => a.tmps.getD d undef | none => vals.getD i undef := fun i hi => by
      rw [hvs, List.getD, List.getElem?_map, List.getElem?_range hi]
      rfl
    have ha : a = putAll l vs a0 := by
      have h1 : a.tmps = (putAll l vs a0).tmps := by
        apply Array.ext_getElem?
        intro t
        by_cases hex : ∃ (j : Nat) (oj : Oper), l.toArray[j]? = some oj ∧ oj.dst = some t
        · obtain ⟨j, oj, hj, hjd⟩ := hex
          have hj' : l[j]? = some oj := by simpa using hj
          have hjl : j < l.length := (List.getElem?_eq_some_iff.1 hj').1
          have hroom := hF.room j oj t hj hjd
          rw [putAll_at l vs a0 j oj t (by omega) hj' hjd hroom (fun k ok hk hkd => hF.unlike j oj t hj hjd k ok (by simpa using hk) hkd), hat j hjl]
          simp only [hj', Option.bind_some, hjd, Array.getD_eq_getD_getElem?]
          rw [Array.getElem?_eq_getElem (by rw [hsz]; exact hroom)]
          rfl
        · have hno : ∀ (j : Nat) (oj : Oper), l.toArray[j]? = some oj → oj.dst ≠ some t := fun j oj hj hjd => hex ⟨j, oj, hj, hjd⟩
          rw [hsame t hno, putAll_other l vs a0 t (fun o2 ho2 => by
            obtain ⟨j, hj, hjo⟩ := List.mem_iff_getElem.1 ho2
            exact hno j o2 (by simp [List.getElem?_eq_getElem hj, hjo]))]
      have h2 : a.defers = (putAll l vs a0).defers := by rw [defers_putAll, hdf]
      cases a
      cases hp : putAll l vs a0
      rw [hp] at h1 h2
      simp only at h1 h2
      subst h1 h2
      rfl
    rw [ha]
    refine each_use spec vals vs w _ (hQ w hb) (by omega) fun i hi => ?_
    have hil : i < l.length := by omega
    rw [hat i hil]
    cases hd : (l[i]).dst with
    | none =>
      simp only [List.getElem?_eq_getElem hil, Option.bind_some, hd]
      unfold known
      rw [bare_use l spec hbare i l[i] (List.getElem?_eq_getElem hil) hd]
    | some d =>
      simp only [List.getElem?_eq_getElem hil, Option.bind_some, hd]
      exact hk i l[i] d (by simp [hil]) hd
end
end Go.Proofs.Ytncooadaeifekaa

/- What single operations owe in a statement that draws its order: those that only reckon, loads of whole arrays, calls by their contracts, new bytes. -/
namespace Go.Proofs.Ytncooadaeifekaa
open Go.RowKit
section
variable {P : Program} {o : Oper} {a : Act} {w : World} {spec : Spec} {vals : List Value} {i : Nat}
theorem known_val {v : Value} (hs : spec.getD i none = none) (hv : v = vals.getD i undef) : known spec vals i v w := by
  unfold known; rw [hs]; exact hv
theorem known_new {v : Value} (S : Value → World → Prop) (hs : spec.getD i none = some S) (hv : S v w) : known spec vals i v w := by
  unfold known; rw [hs]; exact hv
theorem grows_det (v : Value) (h : (execOp a.eval o).run P w = .ok (.value v) w) (hs : spec.getD i none = none) (hv : v = vals.getD i undef) : Grows P o a w (known spec vals i) := by
  unfold Grows; rw [h]; exact ⟨Below.refl _ _, known_val hs hv⟩
theorem grows_new (v : Value) (w' : World) (h : (execOp a.eval o).run P w = .ok (.value v) w') (hb : Below w.heap.size w w') (S : Value → World → Prop) (hs : spec.getD i none = some S) (hv : S v w') : Grows P o a w (known spec vals i) := by
  unfold Grows; rw [h]; exact ⟨hb, known_new S hs hv⟩
theorem grows_skip (w' : World) (h : (execOp a.eval o).run P w = .ok .skip w') (hb : Below w.heap.size w w') (hs : spec.getD i none = none) (hv : undef = vals.getD i undef) : Grows P o a w (known spec vals i) := by
  unfold Grows; rw [h]; exact ⟨hb, known_val hs hv⟩
theorem grows_call (f : FuncId) (args : Array Value) (v : Value) (h : (execOp a.eval o).run P w = .ok (.enter f args) w) (hc : Calls P f args w fun e w' => e = .returned v ∧ Below w.heap.size w w') (hs : spec.getD i none = none) (hv : v = vals.getD i undef) :
    Grows P o a w (known spec vals i) := by
  unfold Grows; rw [h]; exact ⟨Below.refl _ _, hc.mono fun e w' ⟨he, hb⟩ => ⟨v, he, hb, known_val hs hv⟩⟩
theorem grows_row (t : TypeId) (x : Operand) (ho : o.op = .load t x) (g : Nat) (hx : a.eval x = .pointer (some ⟨g, 0, none⟩)) (T : TypeId) (cs : Array Value) (fr : Nat × Nat) (d : TypeDesc) (hg : w.heap[g]? = some (.cells cs T fr))
    (hu : P.underlying t = some d) (hd : (match d with | .struct _ | .array _ _ => true | _ => false) = true) (hi : (P.info? t).map (·.size) = some cs.size) (hs : spec.getD i none = none) (hv : .agg cs = vals.getD i undef) : Grows P o a w (known spec vals i) := by
  refine grows_det (.agg cs) ?_ hs hv
  unfold execOp
  simp only [ho, hx, Instr.loadAt, Instr.sureAddr, Sem.run_bind, Sem.run_pure, Result.andThen_ok, run_loadVar_row w g T t cs fr d hg hu hd hi]
end
/-- the end of a function behind such a statement -/
theorem ret_of {P : Program} {fn : Func} {R : Ending → World → Prop} {F : Act} {w : World} (t : Tmp) (h : fn.results = #[.tmp t]) (hd : F.defers = []) (v : Value) (hv : F.tmps.getD t undef = v) (hR : R (.returned v) w) : bodyPost P fn R .ret F w :=
  bodyPost_ret (v := v) (by rw [results_tmp h, hv]) hd hR
/-- a slice of just these bytes -/
def IsBytes (l : List Nat) (v : Value) (w : World) : Prop := ∃ a cap, v = .slice a l.length cap ∧ HasB w a l
theorem isBytes_stable (l : List Nat) (v : Value) (w w' : World) (h : IsBytes l v w) (hb : Below w.heap.size w w') : IsBytes l v w' := by
  obtain ⟨a, cap, hv, hh⟩ := h
  exact ⟨a, cap, hv, hh.below hb⟩
theorem isBytes_one (w : World) (c : Nat) (hc : c < 256) : IsBytes [c] (.slice (some ⟨w.heap.size, 0, none⟩) 1 1) (w.alloc (.cells #[.int .u8 c] 5)) := by
  refine ⟨_, _, rfl, by simpa using hc, .inr ⟨w.heap.size, 0, rfl, fun i hi => ?_⟩⟩
  rw [cell_of_row _ _ _ _ _ _ (heap_alloc_new w _)]
  have : i = 0 := by simpa using hi
  subst this
  simp [nth]
end Go.Proofs.Ytncooadaeifekaa

/- What single operations owe in a statement that draws its order: cuts of slices, new noughts, exclusive or. -/
namespace Go.Proofs.Ytncooadaeifekaa
open Go.RowKit
theorem add_zero' (a : Addr) : a.add 0 = a := by simp [Addr.add]
theorem op_slice_to {o : Oper} {F : Act} {w : World} {x y : Operand} (a : Option Addr) (len cap k : Nat) (ho : o.op = .slice 28 x none (some y) none) (hx : F.eval x = .slice a len cap) (hy : F.eval y = .int .i64 k) (hk : k ≤ cap) :
    (execOp F.eval o).run Try.prog w = .ok (.value (.slice a k cap)) w := by
  unfold execOp
  simp only [ho, Option.map_none, Option.map_some, hx, hy]
  have h1 : ((k : Int) ≤ (cap : Int)) := by omega
  have h0 : (0 : Int) ≤ (k : Int) := by omega
  simp [go_sem, h1, add_zero']
theorem op_slice_from {o : Oper} {F : Act} {w : World} {x y : Operand} (a : Option Addr) (len cap k : Nat) (ho : o.op = .slice 28 x (some y) none none) (hx : F.eval x = .slice a len cap) (hy : F.eval y = .int .i64 k) (hk : k ≤ len) :
    (execOp F.eval o).run Try.prog w = .ok (.value (.slice (cutAt a cap k) (len - k) (cap - k))) w := by
  unfold execOp
  simp only [ho, Option.map_none, Option.map_some, hx, hy]
  have h1 : ((k : Int) ≤ (len : Int)) := by omega
  have h0 : (0 : Int) ≤ (k : Int) := by omega
  simp [go_sem, h1, cutAt]
/-- a slice of n bytes, which are these -/
def IsBytesN (n : Nat) (l : List Nat) (v : Value) (w : World) : Prop := ∃ a cap, v = .slice a n cap ∧ HasB w a l
theorem isBytesN_stable (n : Nat) (l : List Nat) (v : Value) (w w' : World) (h : IsBytesN n l v w) (hb : Below w.heap.size w w') : IsBytesN n l v w' := by
  obtain ⟨a, cap, hv, hh⟩ := h
  exact ⟨a, cap, hv, hh.below hb⟩
theorem op_make {o : Oper} {F : Act} {w : World} {x : Operand} (m : Nat) (ho : o.op = .makeSlice 28 x x) (hx : F.eval x = .int .i64 m) (hm : m ≤ 1000000) :
    (execOp F.eval o).run Try.prog w = .ok (.value (.slice (some ⟨w.heap.size, 0, none⟩) m m)) (w.alloc (.cells (u8s (List.replicate m 0)).toArray 5)) := by
  unfold execOp
  simp only [ho, hx, Sem.run_bind, run_make_bytes w m hm, Result.andThen_ok, Sem.run_pure]
theorem isBytesN_zeros (w : World) (m : Nat) : IsBytesN m (List.replicate m 0) (.slice (some ⟨w.heap.size, 0, none⟩) m m) (w.alloc (.cells (u8s (List.replicate m 0)).toArray 5)) :=
  ⟨_, _, rfl, RowB.has (heap_alloc_new w _) (by simp)⟩
theorem op_xor32 {o : Oper} {F : Act} {w : World} {x y : Operand} (a b c : Nat) (ho : o.op = .binOp .xor 23 x y 23) (hx : F.eval x = .int .u32 a) (hy : F.eval y = .int .u32 b) (h : bits .xor .u32 (a : Int) (b : Int) = (c : Int)) :
    (execOp F.eval o).run Try.prog w = .ok (.value (.int .u32 c)) w := by
  unfold execOp
  simp only [ho, hx, hy]
  simp [go_sem, h]
end Go.Proofs.Ytncooadaeifekaa

/- Walks of the reader: New, take, Bytes, Rest, Done. -/
namespace Go.Proofs.Ytncooadaeifekaa
open Go.RowKit
/-- a reader in block R: what is left, and whether something went wrong -/
def RdB (w : World) (R : Nat) (a : Option Addr) (l : List Nat) (cap : Nat) (bad : Bool) : Prop :=
  w.heap[R]? = some (.cells #[.slice a l.length cap, .bool bad] 111 (0, 0)) ∧ HasB w a l ∧ l.length ≤ cap ∧ ∀ p, a = some p → p.block ≠ R
theorem turn1 (w : World) (R i : Nat) (u : Value) : Turned (fun k => k = R) w (w.setCell ⟨R, i, none⟩ u) := (Turned.refl (fun k => k = R) w).setCell (p := ⟨R, i, none⟩) (.inl rfl) _
theorem turn2 (w : World) (R i j : Nat) (u v : Value) : Turned (fun k => k = R) w ((w.setCell ⟨R, i, none⟩ u).setCell ⟨R, j, none⟩ v) := (turn1 w R i u).setCell (p := ⟨R, j, none⟩) (.inl rfl) _
section
variable {w : World} {R : Nat} {a : Option Addr} {l : List Nat} {cap : Nat} {bad : Bool}
theorem RdB.cell0 (h : RdB w R a l cap bad) : w.cell? ⟨R, 0, none⟩ = some (.slice a l.length cap) := by rw [cell_of_row _ _ _ _ _ _ h.1]; rfl
theorem RdB.cell1 (h : RdB w R a l cap bad) : w.cell? ⟨R, 1, none⟩ = some (.bool bad) := by rw [cell_of_row _ _ _ _ _ _ h.1]; rfl
theorem RdB.free (h : RdB w R a l cap bad) (i : Nat) : w.frozen? ⟨R, i, none⟩ = false := frozen_of_row w R i _ 111 h.1
theorem RdB.has (h : RdB w R a l cap bad) : HasB w a l := h.2.1
theorem RdB.turned {w' : World} {S : Nat → Prop} (h : RdB w R a l cap bad) (ht : Turned S w w') (hR : ¬ S R) (ha : ∀ p, a = some p → ¬ S p.block) : RdB w' R a l cap bad :=
  ⟨ht.blk h.1 hR, ht.has h.2.1 ha, h.2.2⟩
theorem RdB.grow {w' : World} (h : RdB w R a l cap bad) (hb : Below w.heap.size w w') : RdB w' R a l cap bad :=
  h.turned (S := fun _ => False) (Turned.ofBelow hb) (fun h => h) fun _ _ h => h
theorem cutAt_block {n : Nat} {p : Addr} (h : cutAt a cap n = some p) : ∃ q, a = some q ∧ q.block = p.block := by
  unfold cutAt at h
  split at h
  · exact ⟨p, h, rfl⟩
  · cases a with
    | none => simp at h
    | some q =>
      simp only [Option.map_some, Option.some.injEq] at h
      subst h
      exact ⟨q, rfl, by unfold Addr.add; split <;> rfl⟩
theorem RdB.cut (h : RdB w R a l cap bad) (n : Nat) (_ : n ≤ l.length) : RdB (w.setCell ⟨R, 0, none⟩ (.slice (cutAt a cap n) (l.drop n).length (cap - n))) R (cutAt a cap n) (l.drop n) (cap - n) bad := by
  refine ⟨?_, ?_, by have := h.2.2.1; simp; omega, fun p hp => ?_⟩
  · rw [heap_setCell_same w R 0 _ 111 _ h.1]; rfl
  · refine ((Turned.refl (fun k => k = R) w).setCell (p := ⟨R, 0, none⟩) (.inl rfl) _).has (h.2.1.drop n cap h.2.2.1) fun p hp => ?_
    obtain ⟨q, hq, e⟩ := cutAt_block hp
    rw [← e]
    exact h.2.2.2 q hq
  · obtain ⟨q, hq, e⟩ := cutAt_block hp
    rw [← e]
    exact h.2.2.2 q hq
theorem RdB.spoil (h : w.heap[R]? = some (.cells #[.slice a l.length cap, .bool bad] 111 (0, 0))) : RdB ((w.setCell ⟨R, 0, none⟩ (.slice none 0 0)).setCell ⟨R, 1, none⟩ (.bool true)) R none [] 0 true := by
  refine ⟨?_, ⟨by simp, .inl rfl⟩, Nat.le_refl _, fun p hp => by simp at hp⟩
  rw [heap_setCell_same _ R 1 _ 111 _ (heap_setCell_same w R 0 _ 111 _ h)]; rfl
end
set_option maxRecDepth 100000 in
set_option maxHeartbeats 400000 in
theorem take_good (R : Nat) (n : Nat) (w : World) (a : Option Addr) (l : List Nat) (cap : Nat) (hr : RdB w R a l cap false) (hn : n ≤ l.length) (_ : l.length ≤ 1000000) :
    Calls Try.prog 78 #[.pointer (some ⟨R, 0, none⟩), .int .i64 n] w fun e w' => e = .returned (.slice a n n) ∧ RdB w' R (cutAt a cap n) (l.drop n) (cap - n) false ∧ Turned (fun k => k = R) w w' := by
  have HR := hid hr
  have hc0 := hr.cell0
  have hc1 := hr.cell1
  have hfree := hr.free
  have hcap := hr.2.2.1
  have t1 : decide ((n : Int) < 0) = false := by simp
  have t2 : decide (l.length < n) = false := by simp; omega
  clear hr
  go_enter Try.func78, Try.ntmps78
  go_wp2
  · subst cap
    go_ret
    have h := HR.out.cut n hn
    simp only [cutAt, if_true, List.length_drop, Nat.sub_self] at h ⊢
    exact ⟨rfl, h, turn1 _ _ _ _⟩
  · have hne : ¬ cap = n := by assumption
    go_ret
    have h := HR.out.cut n hn
    simp only [cutAt, if_neg hne, List.length_drop] at h ⊢
    exact ⟨rfl, h, turn1 _ _ _ _⟩
set_option maxRecDepth 100000 in
set_option maxHeartbeats 400000 in
theorem take_bad (R : Nat) (n : Int) (w : World) (a : Option Addr) (l : List Nat) (cap : Nat) (bad : Bool) (hr : RdB w R a l cap bad) (hn : bad = true ∨ n < 0 ∨ (l.length : Int) < n) :
    Calls Try.prog 78 #[.pointer (some ⟨R, 0, none⟩), .int .i64 n] w fun e w' => e = .returned (.slice none 0 0) ∧ RdB w' R none [] 0 true ∧ Turned (fun k => k = R) w w' := by
  have HR := hid hr
  have hc0 := hr.cell0
  have hc1 := hr.cell1
  have hfree := hr.free
  clear hr
  by_cases hb : bad = true
  · subst hb
    clear hn
    go_enter Try.func78, Try.ntmps78
    go_wp2
    go_ret
    exact ⟨rfl, RdB.spoil HR.out.1, turn2 _ _ _ _ _ _⟩
  · obtain rfl : bad = false := by cases bad; rfl; exact absurd rfl hb
    by_cases h0 : n < 0
    · have t1 : decide (n < 0) = true := by simpa using h0
      clear hn hb h0
      go_enter Try.func78, Try.ntmps78
      go_wp2
      go_ret
      exact ⟨rfl, RdB.spoil HR.out.1, turn2 _ _ _ _ _ _⟩
    · have t1 : decide (n < 0) = false := by simpa using h0
      have t2 : decide ((l.length : Int) < n) = true := by simp; rcases hn with h | h | h; simp at h; omega; exact h
      clear hn hb h0
      go_enter Try.func78, Try.ntmps78
      go_wp2
      go_ret
      exact ⟨rfl, RdB.spoil HR.out.1, turn2 _ _ _ _ _ _⟩
set_option maxRecDepth 100000 in
theorem rdBytes_good (R : Nat) (n : Nat) (w : World) (a : Option Addr) (l : List Nat) (cap : Nat) (hr : RdB w R a l cap false) (hn : n ≤ l.length) (hl : l.length ≤ 1000000) :
    Calls Try.prog 52 #[.pointer (some ⟨R, 0, none⟩), .int .i64 n] w fun e w' => e = .returned (.slice a n n) ∧ RdB w' R (cutAt a cap n) (l.drop n) (cap - n) false ∧ Turned (fun k => k = R) w w' := by
  have HR := hid hr
  have HN := hid hn
  have HL := hid hl
  clear hr hn hl
  go_enter Try.func52, Try.ntmps52
  go_wp2_with (go_at_call 78; refine (take_good R n _ a l cap HR.out HN.out HL.out).mono ?_; rintro e w1 ⟨rfl, h⟩)
  go_ret
  exact ⟨rfl, h⟩
set_option maxRecDepth 100000 in
theorem rdBytes_bad (R : Nat) (n : Int) (w : World) (a : Option Addr) (l : List Nat) (cap : Nat) (bad : Bool) (hr : RdB w R a l cap bad) (hn : bad = true ∨ n < 0 ∨ (l.length : Int) < n) :
    Calls Try.prog 52 #[.pointer (some ⟨R, 0, none⟩), .int .i64 n] w fun e w' => e = .returned (.slice none 0 0) ∧ RdB w' R none [] 0 true ∧ Turned (fun k => k = R) w w' := by
  have HR := hid hr
  have HN := hid hn
  clear hr hn
  go_enter Try.func52, Try.ntmps52
  go_wp2_with (go_at_call 78; refine (take_bad R n _ a l cap bad HR.out HN.out).mono ?_; rintro e w1 ⟨rfl, h⟩)
  go_ret
  exact ⟨rfl, h⟩
set_option maxRecDepth 100000 in
theorem rest_calls (R : Nat) (w : World) (a : Option Addr) (l : List Nat) (cap : Nat) (bad : Bool) (hr : RdB w R a l cap bad) :
    Calls Try.prog 53 #[.pointer (some ⟨R, 0, none⟩)] w fun e w' => e = .returned (.int .i64 l.length) ∧ Below w.heap.size w w' := by
  have hc0 := hr.cell0
  clear hr
  go_enter Try.func53, Try.ntmps53
  go_wp2
  go_ret
  exact ⟨rfl, Below.refl _ _⟩
set_option maxRecDepth 100000 in
theorem done_calls (R : Nat) (w : World) (a : Option Addr) (l : List Nat) (cap : Nat) (bad : Bool) (hr : RdB w R a l cap bad) :
    Calls Try.prog 58 #[.pointer (some ⟨R, 0, none⟩)] w fun e w' => e = .returned (.int .i64 (if bad = true ∨ l ≠ [] then 14 else 0)) ∧ Below w.heap.size w w' := by
  have hc0 := hr.cell0
  have hc1 := hr.cell1
  clear hr
  cases bad with
  | true =>
    rw [if_pos (.inl rfl)]
    go_enter Try.func58, Try.ntmps58
    go_wp2
    go_ret
    exact ⟨rfl, Below.refl _ _⟩
  | false =>
    cases l with
    | nil =>
      rw [if_neg (by simp)]
      go_enter Try.func58, Try.ntmps58
      go_wp2
      go_ret
      exact ⟨rfl, Below.refl _ _⟩
    | cons c l =>
      rw [if_pos (by simp)]
      obtain ⟨n, hn⟩ : ∃ n, n = (c :: l).length := ⟨_, rfl⟩
      have t1 : decide (0 < n) = true := by rw [hn]; simp
      rw [← hn] at hc0
      clear hn
      go_enter Try.func58, Try.ntmps58
      go_wp2
      go_ret
      exact ⟨rfl, Below.refl _ _⟩
set_option maxRecDepth 100000 in
theorem rnew_calls (a : Option Addr) (l : List Nat) (c : Nat) (w : World) (hl : HasB w a l) (hn : l.length ≤ 1000000) :
    Calls Try.prog 49 #[.slice a l.length c] w fun e w' => (∃ R a' cap, e = .returned (.pointer (some ⟨R, 0, none⟩)) ∧ RdB w' R a' l cap false ∧ w.heap.size ≤ R ∧ R < w'.heap.size ∧ ∀ p, a' = some p → w.heap.size ≤ p.block ∧ p.block < w'.heap.size) ∧ Below w.heap.size w w' := by
  go_enter Try.func49, Try.ntmps49
  go_wp2_with (first | ((with_reducible show wpList _ _ _ (⟨some 3, _, _, _, _, _⟩ :: _) _ _); refine wpList_empty 3 rfl rfl rfl ?_; intro W v8 ho8 hb8) | ((with_reducible show wpList _ _ _ (⟨some 5, _, _, _, _, _⟩ :: _) _ _); refine wpList_append_at 5 rfl rfl _ _ rfl w.heap.size _ [] l l rfl (by rfl) ho8 a c (by rfl) (hl.below hb8) hn hb8.size ?_; intro av cv w5 ho5 hcv5 hh5 hb5))
  go_ret
  have hb := hb8.trans hb5
  have hblk : ∀ p, av = some p → w.heap.size ≤ p.block ∧ p.block < w5.heap.size := fun p hp => ho5.ownLt p.block (by subst hp; rfl)
  refine ⟨⟨w5.heap.size, av, cv, rfl, ⟨heap_alloc_new w5 _, hh5.below ((Below.refl _ _).alloc (Nat.le_refl _) _), hcv5, fun p hp => by have := (hblk p hp).2; omega⟩, hb.size, by simp, fun p hp => ?_⟩, hb.alloc hb.size _⟩
  have := hblk p hp
  simp; omega
end Go.Proofs.Ytncooadaeifekaa
