/- Plain laws, no program in sight: the checksum's word gone on by bits and bytes is linear and injective; bursts, two bits, single flips; long division by the generator; numbers in bytes, lowest first. -/
namespace Go.Proofs.Ytncooadaeifekaa.M
def stp (r : Nat) : Nat := if r % 2 = 1 then (r / 2) ^^^ 2197175160 else r / 2
theorem stp_xor (a b : Nat) : stp (a ^^^ b) = stp a ^^^ stp b := by
  have h1 : (a ^^^ b) / 2 = a / 2 ^^^ b / 2 := Nat.xor_div_two
  have h2 : (a ^^^ b) % 2 = (a + b) % 2 := by have := Nat.xor_mod_two_pow (a := a) (b := b) (n := 1); simp only [Nat.pow_one] at this; rw [this]; rcases Nat.mod_two_eq_zero_or_one a with ha | ha <;> rcases Nat.mod_two_eq_zero_or_one b with hb | hb <;> rw [ha, hb, Nat.add_mod, ha, hb] <;> rfl
  unfold stp
  rw [h1, h2]
  rcases Nat.mod_two_eq_zero_or_one a with ha | ha <;> rcases Nat.mod_two_eq_zero_or_one b with hb | hb
  · rw [if_neg (by omega), if_neg (by omega), if_neg (by omega)]
  · rw [if_pos (by omega), if_neg (by omega), if_pos (by omega), Nat.xor_assoc]
  · rw [if_pos (by omega), if_pos (by omega), if_neg (by omega), Nat.xor_assoc, Nat.xor_assoc, Nat.xor_comm (b/2)]
  · rw [if_neg (by omega), if_pos (by omega), if_pos (by omega)]
    rw [Nat.xor_assoc, Nat.xor_comm (b/2), ← Nat.xor_assoc 2197175160, Nat.xor_self, Nat.zero_xor]
theorem stp_lt (r : Nat) (h : r < 4294967296) : stp r < 4294967296 := by
  unfold stp; split
  · exact Nat.xor_lt_two_pow (n := 32) (by omega) (by omega)
  · omega
theorem stp_zero : stp 0 = 0 := by decide
theorem stp_inj0 (r : Nat) (h : r < 4294967296) (h0 : stp r = 0) : r = 0 := by
  unfold stp at h0; split at h0
  · have := Nat.xor_lt_two_pow (n := 31) (x := r/2) (y := 2197175160 ) 
    have h3 : r / 2 = 2197175160 := by
      have := congrArg (· ^^^ 2197175160) h0
      simpa [Nat.xor_assoc] using this
    omega
  · omega
def stpN : Nat → Nat → Nat
  | 0, r => r
  | n + 1, r => stpN n (stp r)
theorem stpN_xor (n a b : Nat) : stpN n (a ^^^ b) = stpN n a ^^^ stpN n b := by
  induction n generalizing a b with
  | zero => rfl
  | succ n ih => simp only [stpN, stp_xor, ih]
theorem stpN_lt (n r : Nat) (h : r < 4294967296) : stpN n r < 4294967296 := by
  induction n generalizing r with
  | zero => exact h
  | succ n ih => exact ih _ (stp_lt _ h)
theorem stpN_zero (n : Nat) : stpN n 0 = 0 := by
  induction n with
  | zero => rfl
  | succ n ih => simp only [stpN, stp_zero, ih]
theorem stpN_inj0 (n r : Nat) (h : r < 4294967296) (h0 : stpN n r = 0) : r = 0 := by
  induction n generalizing r with
  | zero => exact h0
  | succ n ih => exact stp_inj0 r h (ih _ (stp_lt _ h) h0)
theorem stpN_add (m n r : Nat) : stpN (m + n) r = stpN n (stpN m r) := by
  induction m generalizing r with
  | zero => simp [stpN]
  | succ m ih => rw [Nat.add_right_comm]; simp only [stpN, ih]
theorem stpN_shift (n k : Nat) : stpN n (2 ^ n * k) = k := by
  induction n with
  | zero => simp [stpN]
  | succ n ih =>
    simp only [stpN]
    have : stp (2 ^ (n + 1) * k) = 2 ^ n * k := by
      unfold stp
      have e : 2 ^ (n + 1) * k = 2 * (2 ^ n * k) := by rw [Nat.pow_succ]; simp only [Nat.mul_comm, Nat.mul_left_comm]
      rw [e, if_neg (by omega)]; omega
    rw [this, ih]

theorem split8 (r : Nat) : r = (2 ^ 8 * (r / 256)) ^^^ (r % 256) := by
  apply Nat.eq_of_testBit_eq
  intro i
  rw [Nat.testBit_xor, show (r % 256) = r % 2 ^ 8 from rfl, Nat.testBit_mod_two_pow, Nat.mul_comm, Nat.testBit_mul_two_pow, show r / 256 = r / 2 ^ 8 from rfl, Nat.testBit_div_two_pow]
  by_cases h : i < 8
  · simp [h, show ¬ 8 ≤ i by omega]
  · simp [h, show 8 ≤ i by omega, show i - 8 + 8 = i by omega]
/-- one byte -/
def bst (r c : Nat) : Nat := stpN 8 (r ^^^ c)
def tb (i : Nat) : Nat := stpN 8 i
theorem bst_lt (r c : Nat) (h : r < 4294967296) (hc : c < 256) : bst r c < 4294967296 :=
  stpN_lt _ _ (Nat.xor_lt_two_pow (n := 32) (by omega) (by omega))
theorem bst_eq (r c : Nat) : bst r c = (r / 256) ^^^ tb ((r % 256) ^^^ c) := by
  unfold bst tb
  conv => lhs; rw [split8 r, Nat.xor_assoc, stpN_xor, stpN_shift 8]
theorem tb_lt (i : Nat) (h : i < 256) : tb i < 4294967296 := stpN_lt _ _ (by omega)
theorem xor4 (r s c d : Nat) : r ^^^ s ^^^ (c ^^^ d) = r ^^^ c ^^^ (s ^^^ d) := by
  rw [Nat.xor_assoc, Nat.xor_assoc, ← Nat.xor_assoc s, Nat.xor_comm s, Nat.xor_assoc c]
theorem bst_xor (r s c d : Nat) : bst (r ^^^ s) (c ^^^ d) = bst r c ^^^ bst s d := by
  unfold bst
  rw [← stpN_xor, xor4]
theorem bst_zero (r : Nat) : bst r 0 = stpN 8 r := by rw [bst, Nat.xor_zero]
def over (r : Nat) (l : List Nat) : Nat := l.foldl bst r
theorem over_nil (r : Nat) : over r [] = r := rfl
theorem over_cons (r c : Nat) (l : List Nat) : over r (c :: l) = over (bst r c) l := by unfold over; exact List.foldl_cons ..
theorem over_append (r : Nat) (a b : List Nat) : over r (a ++ b) = over (over r a) b := by
  unfold over; exact List.foldl_append ..
theorem over_lt (r : Nat) (l : List Nat) (h : r < 4294967296) (hl : ∀ c ∈ l, c < 256) : over r l < 4294967296 := by
  induction l generalizing r with
  | nil => exact h
  | cons c l ih => rw [over_cons]; exact ih _ (bst_lt _ _ h (hl c (by simp))) fun x hx => hl x (by simp [hx])
theorem over_xor (a b : List Nat) (r s : Nat) (h : a.length = b.length) : over (r ^^^ s) (List.zipWith (· ^^^ ·) a b) = over r a ^^^ over s b := by
  induction a generalizing b r s with
  | nil => cases b with
    | nil => rfl
    | cons => simp at h
  | cons c a ih => cases b with
    | nil => simp at h
    | cons d b =>
      simp only [List.zipWith_cons_cons, over_cons]
      rw [← ih b _ _ (by simpa using h)]
      rw [bst_xor]
theorem over_zeros (n r : Nat) : over r (List.replicate n 0) = stpN (8 * n) r := by
  induction n generalizing r with
  | zero => rfl
  | succ n ih =>
    rw [List.replicate_succ, over_cons, ih, show 8 * (n + 1) = 8 + 8 * n by omega, stpN_add, bst_zero]
def feed (r : Nat) : Nat → (Nat → Bool) → Nat
  | 0, _ => r
  | n + 1, f => stp (feed r n f ^^^ (f n).toNat)
theorem feed_add (r m n : Nat) (f : Nat → Bool) : feed r (m + n) f = feed (feed r m f) n (fun i => f (m + i)) := by
  induction n with
  | zero => rfl
  | succ n ih => rw [← Nat.add_assoc]; simp only [feed, ih]
theorem feed_congr (r n : Nat) (f g : Nat → Bool) (h : ∀ i, i < n → f i = g i) : feed r n f = feed r n g := by
  induction n with
  | zero => rfl
  | succ n ih => simp only [feed, ih (fun i hi => h i (by omega)), h n (by omega)]
theorem stpN_succ' (n r : Nat) : stpN (n + 1) r = stp (stpN n r) := by rw [stpN_add]; rfl
theorem feed_word (n r w : Nat) : feed r n (fun i => w.testBit i) = stpN n (r ^^^ (w % 2 ^ n)) := by
  induction n with
  | zero => simp [feed, stpN, Nat.mod_one]
  | succ n ih =>
    have e : w % 2 ^ (n + 1) = (w % 2 ^ n) ^^^ (2 ^ n * (w.testBit n).toNat) := by
      apply Nat.eq_of_testBit_eq
      intro i
      rw [Nat.testBit_xor, Nat.testBit_mod_two_pow, Nat.testBit_mod_two_pow, Nat.mul_comm, Nat.testBit_mul_two_pow]
      by_cases h : i < n
      · simp [h, show i < n + 1 by omega, show ¬ n ≤ i by omega]
      · by_cases h2 : i = n
        · subst h2; cases w.testBit i <;> simp
        · have : 1 ≤ i - n := by omega
          have : ((w.testBit n).toNat).testBit (i - n) = false := by
            apply Nat.testBit_lt_two_pow
            have := Bool.toNat_lt (w.testBit n)
            calc _ < 2 := this
              _ = 2 ^ 1 := rfl
              _ ≤ _ := Nat.pow_le_pow_right (by decide) (by omega)
          simp [h, show ¬ i < n + 1 by omega, this]
    simp only [feed]
    rw [ih, stpN_succ', e, ← Nat.xor_assoc, stpN_xor n _ (2 ^ n * _), stpN_shift]
theorem feed_zero (n r : Nat) (f : Nat → Bool) (h : ∀ i, i < n → f i = false) : feed r n f = stpN n r := by
  induction n with
  | zero => rfl
  | succ n ih => simp only [feed]; rw [ih (fun i hi => h i (by omega)), h n (by omega), stpN_succ']; simp
/-- bit i of bytes -/
def bitL (l : List Nat) (i : Nat) : Bool := (l.getD (i / 8) 0).testBit (i % 8)
theorem over_feed (l : List Nat) (r : Nat) (hl : ∀ c ∈ l, c < 256) : over r l = feed r (8 * l.length) (bitL l) := by
  induction l generalizing r with
  | nil => rfl
  | cons c l ih =>
    have hc : c < 2 ^ 8 := hl c (by simp)
    rw [over_cons, ih _ (fun x hx => hl x (by simp [hx])), List.length_cons, show 8 * (l.length + 1) = 8 + 8 * l.length by omega, feed_add]
    have e1 : feed r 8 (bitL (c :: l)) = bst r c := by
      rw [feed_congr r 8 _ (fun i => c.testBit i) (fun i hi => by simp [bitL, Nat.div_eq_of_lt hi, Nat.mod_eq_of_lt hi]), feed_word, Nat.mod_eq_of_lt hc, bst]
    rw [e1]
    apply feed_congr
    intro i _
    unfold bitL
    rw [show (8 + i) / 8 = i / 8 + 1 by omega, show (8 + i) % 8 = i % 8 by omega]
    rfl
theorem feed_lt (r n : Nat) (f : Nat → Bool) (h : r < 4294967296) : feed r n f < 4294967296 := by
  induction n with
  | zero => exact h
  | succ n ih =>
    refine stp_lt _ (Nat.xor_lt_two_pow (n := 32) ih ?_)
    have := Bool.toNat_lt (f n); omega
theorem feed_xor (r s n : Nat) (f g : Nat → Bool) : feed (r ^^^ s) n (fun i => f i ^^ g i) = feed r n f ^^^ feed s n g := by
  induction n with
  | zero => rfl
  | succ n ih =>
    simp only [feed]
    rw [ih, ← stp_xor]
    congr 1
    have : (f n ^^ g n).toNat = (f n).toNat ^^^ (g n).toNat := by cases f n <;> cases g n <;> rfl
    rw [this, Nat.xor_assoc, Nat.xor_assoc, ← Nat.xor_assoc (feed s n g), Nat.xor_comm (feed s n g), Nat.xor_assoc (f n).toNat]
/-- a burst is no multiple -/
theorem burst_ne (l : List Nat) (hl : ∀ c ∈ l, c < 256) (word a : Nat) (hw : 0 < word) (hw2 : word < 4294967296) (ha : a + 32 ≤ 8 * l.length)
    (hb : ∀ i, i < 8 * l.length → bitL l i = (decide (a ≤ i ∧ i < a + 32) && word.testBit (i - a))) : over 0 l ≠ 0 := by
  rw [over_feed l 0 hl]
  intro h
  have e : 8 * l.length = a + (32 + (8 * l.length - a - 32)) := by omega
  rw [e, feed_add, feed_add] at h
  rw [feed_zero a 0 _ (fun i hi => by rw [hb i (by omega)]; simp; omega), stpN_zero] at h
  rw [feed_zero _ _ _ (fun i hi => by rw [hb _ (by omega)]; simp; omega)] at h
  rw [feed_congr 0 32 _ (fun i => word.testBit i) (fun i hi => by rw [hb _ (by omega)]; simp; omega)] at h
  rw [feed_word, Nat.zero_xor, Nat.mod_eq_of_lt hw2] at h
  have h1 := stpN_inj0 _ _ (stpN_lt _ _ hw2) h
  have h2 := stpN_inj0 _ _ hw2 h1
  omega
end Go.Proofs.Ytncooadaeifekaa.M
namespace Go.Proofs.Ytncooadaeifekaa.M
def chk : Nat → Nat → Bool
  | 0, _ => true
  | n + 1, r => (stp r != 1) && chk n (stp r)
theorem chk_sound (n r : Nat) (h : chk n r = true) : ∀ d, 0 < d → d ≤ n → stpN d r ≠ 1 := by
  induction n generalizing r with
  | zero => intro d h1 h2; omega
  | succ n ih =>
    intro d h1 h2
    simp only [chk, Bool.and_eq_true, bne_iff_ne, ne_eq] at h
    obtain ⟨d, rfl⟩ : ∃ k, d = k + 1 := ⟨d - 1, by omega⟩
    rw [stpN]
    by_cases hd : d = 0
    · subst hd; exact h.1
    · exact ih _ h.2 d (by omega) (by omega)
theorem chk4000 : chk 4000 1 = true := by decide +kernel
theorem two_ne (l : List Nat) (hl : ∀ c ∈ l, c < 256) (a b : Nat) (hab : a < b) (hd : b - a ≤ 4000) (hb : b < 8 * l.length)
    (h : ∀ i, i < 8 * l.length → bitL l i = decide (i = a ∨ i = b)) : over 0 l ≠ 0 := by
  rw [over_feed l 0 hl]
  intro h0
  have e : 8 * l.length = a + (1 + ((b - a - 1) + (1 + (8 * l.length - b - 1)))) := by omega
  rw [e, feed_add, feed_add, feed_add, feed_add] at h0
  rw [feed_zero a 0 _ (fun i hi => by rw [h i (by omega)]; simp; omega), stpN_zero] at h0
  rw [feed_zero _ _ _ (fun i hi => by rw [h _ (by omega)]; simp; omega)] at h0
  rw [feed_zero (b - a - 1) _ _ (fun i hi => by rw [h _ (by omega)]; simp; omega)] at h0
  simp only [feed] at h0
  rw [h _ (by omega), h _ (by omega)] at h0
  rw [show decide (a + 0 = a ∨ a + 0 = b) = true by simp, show decide (a + (1 + (b - a - 1 + 0)) = a ∨ a + (1 + (b - a - 1 + 0)) = b) = true by simp; omega] at h0
  have h1 := stpN_inj0 _ _ (stp_lt _ (Nat.xor_lt_two_pow (n := 32) (stpN_lt _ _ (stp_lt _ (by decide))) (by decide))) h0
  have h2 := stp_inj0 _ (Nat.xor_lt_two_pow (n := 32) (stpN_lt _ _ (stp_lt _ (by decide))) (by decide)) h1
  have h3 : stpN (b - a) 1 = 1 := by
    have h4 := congrArg (· ^^^ 1) h2
    simp only [Bool.toNat_true, Nat.xor_assoc, Nat.xor_self, Nat.xor_zero, Nat.zero_xor] at h4
    rw [show b - a = 1 + (b - a - 1) by omega, stpN_add]
    exact h4
  exact chk_sound 4000 1 chk4000 (b - a) (by omega) hd h3
theorem xor_cancel_left {a b c : Nat} (h : a ^^^ b = a ^^^ c) : b = c := by
  have := congrArg (a ^^^ ·) h
  simpa [← Nat.xor_assoc] using this
theorem tb_xor (a b : Nat) : tb (a ^^^ b) = tb a ^^^ tb b := stpN_xor ..
theorem stpN_inj (n a b : Nat) (ha : a < 4294967296) (hb : b < 4294967296) (h : stpN n a = stpN n b) : a = b := by
  have h0 : stpN n (a ^^^ b) = 0 := by rw [stpN_xor, h, Nat.xor_self]
  have := stpN_inj0 n _ (Nat.xor_lt_two_pow (n := 32) ha hb) h0
  apply (xor_cancel_left (a := b) ?_)
  rw [Nat.xor_comm b a, this, Nat.xor_self]
theorem tb_inj (a b : Nat) (ha : a < 256) (hb : b < 256) : tb a = tb b ↔ a = b :=
  ⟨stpN_inj 8 a b (by omega) (by omega), fun h => by rw [h]⟩
theorem flip_ne (l m : List Nat) (hl : ∀ c ∈ l, c < 256) (hm : ∀ c ∈ m, c < 256) (hlen : m.length = l.length) (k r : Nat) (hk : k < 8 * l.length)
    (h : ∀ i, i < 8 * l.length → bitL m i = (bitL l i ^^ decide (i = k))) : over r m ≠ over r l := by
  rw [over_feed l r hl, over_feed m r hm, hlen, feed_congr r _ (bitL m) _ h]
  have e := feed_xor r 0 (8 * l.length) (bitL l) (fun i => decide (i = k))
  rw [Nat.xor_zero] at e
  rw [e]
  intro h0
  have h1 : feed 0 (8 * l.length) (fun i => decide (i = k)) = 0 := by
    apply xor_cancel_left (a := feed r (8 * l.length) (bitL l)); rw [h0, Nat.xor_zero]
  rw [show 8 * l.length = k + (1 + (8 * l.length - k - 1)) by omega, feed_add, feed_add] at h1
  rw [feed_zero k 0 _ (fun i hi => by simp; omega), stpN_zero] at h1
  rw [feed_zero _ _ _ (fun i hi => by simp)] at h1
  simp only [feed, Nat.add_zero, decide_true, Bool.toNat_true, Nat.zero_xor] at h1
  have h2 := stpN_inj0 _ _ (stp_lt _ (by decide)) h1
  exact absurd (stp_inj0 _ (by decide) h2) (by decide)
end Go.Proofs.Ytncooadaeifekaa.M
namespace Go.Proofs.Ytncooadaeifekaa.M
def wd : Nat → (Nat → Bool) → Nat
  | 0, _ => 0
  | n + 1, h => wd n h ^^^ 2 ^ n * (h n).toNat
theorem bool_testBit (b : Bool) (k : Nat) : b.toNat.testBit k = (b && decide (k = 0)) := by
  cases b
  · simp
  · by_cases h : k = 0
    · subst h; rfl
    · rw [Bool.toNat_true, Nat.testBit_lt_two_pow (Nat.lt_of_lt_of_le (by decide : 1 < 2 ^ 1) (Nat.pow_le_pow_right (by decide) (by omega)))]; simp [h]
theorem wd_testBit (n : Nat) (h : Nat → Bool) (i : Nat) : (wd n h).testBit i = (decide (i < n) && h i) := by
  induction n with
  | zero => simp [wd]
  | succ n ih =>
    rw [wd, Nat.testBit_xor, ih, Nat.mul_comm, Nat.testBit_mul_two_pow, bool_testBit]
    by_cases h1 : i < n
    · simp [h1, show i < n + 1 by omega, show ¬ n ≤ i by omega]
    · by_cases h2 : i = n
      · subst h2; simp
      · simp [h1, show ¬ i < n + 1 by omega, show i - n ≠ 0 by omega]
theorem wd_lt (n : Nat) (h : Nat → Bool) : wd n h < 2 ^ n := by
  apply Nat.lt_pow_two_of_testBit
  intro i hi
  rw [wd_testBit, decide_eq_false (by omega)]; rfl
theorem feed_wd (n r : Nat) (h : Nat → Bool) : feed r n h = stpN n (r ^^^ wd n h) := by
  rw [feed_congr r n h (fun i => (wd n h).testBit i) (fun i hi => by rw [wd_testBit]; simp [hi]), feed_word, Nat.mod_eq_of_lt (wd_lt n h)]
theorem feed_inv (n : Nat) (hn : n ≤ 32) (h : Nat → Bool) (h0 : feed 0 n h = 0) (i : Nat) (hi : i < n) : h i = false := by
  rw [feed_wd, Nat.zero_xor] at h0
  have h1 : wd n h < 4294967296 := Nat.lt_of_lt_of_le (wd_lt n h) (Nat.pow_le_pow_right (by decide) hn : 2 ^ n ≤ 2 ^ 32)
  have h2 := wd_testBit n h i
  rw [stpN_inj0 n _ h1 h0] at h2
  simpa [hi] using h2.symm
theorem feed_self (r : Nat) (n : Nat) (hn : n ≤ 32) (g : Nat → Bool) (hg : ∀ i, n ≤ i → r.testBit i = false) :
    feed r n g = 0 ↔ ∀ i, i < n → g i = r.testBit i := by
  have hw : wd n (fun i => r.testBit i) = r := by
    apply Nat.eq_of_testBit_eq; intro i; rw [wd_testBit]
    by_cases h : i < n
    · simp [h]
    · simp [h, hg i (by omega)]
  have e : feed r n g = feed 0 n (fun i => r.testBit i ^^ g i) := by
    have := feed_xor r 0 n (fun i => r.testBit i) (fun i => r.testBit i ^^ g i)
    simp only [Nat.xor_zero] at this
    rw [feed_wd n r (fun i => r.testBit i), hw, Nat.xor_self, stpN_zero, Nat.zero_xor] at this
    rw [← this]
    apply feed_congr; intro i _; cases r.testBit i <;> cases g i <;> rfl
  rw [e]
  constructor
  · intro h i hi
    have := feed_inv n hn _ h i hi
    revert this
    cases r.testBit i <;> cases g i <;> decide
  · intro h
    rw [feed_zero _ _ _ (fun i hi => by rw [h i hi]; simp), stpN_zero]
/-- what stands in the list while it is divided -/
def inv (f : Nat → Bool) (i : Nat) (P : Nat → Bool) : Prop :=
  ∀ j, P j = (decide (i ≤ j) && (f j ^^ (decide (j < i + 32) && (feed 0 i f).testBit (j - i))))
theorem inv_zero (f : Nat → Bool) : inv f 0 f := by intro j; simp [feed]
def gbit (m : Nat) : Bool := decide (m ≤ 32) && (decide (m = 0) || (2197175160 : Nat).testBit (m - 1))
theorem stp_testBit (r m : Nat) : (stp r).testBit m = (r.testBit (m + 1) ^^ (r.testBit 0 && (2197175160 : Nat).testBit m)) := by
  unfold stp
  have h0 : r.testBit 0 = decide (r % 2 = 1) := Nat.testBit_zero r
  rw [h0]
  split
  · next h => rw [Nat.testBit_xor, ← Nat.testBit_succ]; simp [h]
  · next h => rw [← Nat.testBit_succ]; simp [h]
theorem inv_step (f : Nat → Bool) (i : Nat) (P : Nat → Bool) (h : inv f i P) :
    inv f (i + 1) (fun j => P j ^^ (P i && (decide (i ≤ j) && gbit (j - i)))) := by
  intro j
  have hi := h i
  simp only [Nat.le_refl, decide_true, Bool.true_and, Nat.sub_self, show i < i + 32 by omega] at hi
  by_cases h1 : i ≤ j
  · by_cases h2 : i = j
    · subst h2
      simp [gbit, show ¬ i + 1 ≤ i by omega]
    · obtain ⟨m, rfl⟩ : ∃ m, j = i + 1 + m := ⟨j - i - 1, by omega⟩
      have hj := h (i + 1 + m)
      show (P (i + 1 + m) ^^ _) = _
      rw [hj, hi]
      rw [show i + 1 + m - i = m + 1 by omega, show i + 1 + m - (i + 1) = m by omega]
      rw [feed, stp_testBit, Nat.testBit_xor, Nat.testBit_xor, bool_testBit, bool_testBit, decide_eq_true h1]
      simp only [gbit, Nat.add_sub_cancel, show m + 1 ≠ 0 by omega, decide_false, Bool.false_or, Bool.and_false, Bool.xor_false, Bool.true_and, decide_true, Bool.and_true]
      have e1 : decide (i + 1 + m < i + 32) = decide (m + 1 < 32) := by congr 1; apply propext; omega
      have e2 : decide (i + 1 + m < i + 1 + 32) = decide (m < 32) := by congr 1; apply propext; omega
      have e3 : decide (m + 1 ≤ 32) = decide (m < 32) := by congr 1
      have e4 : decide (i + 1 ≤ i + 1 + m) = true := by simp
      rw [e1, e2, e3, e4]
      have e5 : 32 ≤ m + 1 → (feed 0 i f).testBit (m + 1) = false := by
        intro hm
        apply Nat.testBit_lt_two_pow
        exact Nat.lt_of_lt_of_le (feed_lt 0 i f (by decide)) (Nat.pow_le_pow_right (by decide) hm : 2 ^ 32 ≤ 2 ^ (m + 1))
      by_cases hm : m < 32
      · by_cases hm2 : m + 1 < 32
        · simp only [hm, hm2, decide_true, Bool.true_and]
          cases f i <;> cases (feed 0 i f).testBit 0 <;> cases f (i + 1 + m) <;> cases (feed 0 i f).testBit (m + 1) <;> cases Nat.testBit 2197175160 m <;> rfl
        · rw [e5 (by omega)]
          simp only [hm, hm2, decide_true, decide_false, Bool.true_and, Bool.false_and]
          cases f i <;> cases (feed 0 i f).testBit 0 <;> cases f (i + 1 + m) <;> cases Nat.testBit 2197175160 m <;> rfl
      · simp [hm, show ¬ m + 1 < 32 by omega]
  · have hj := h j
    simp only [h1, decide_false, Bool.false_and] at hj ⊢
    simp [hj, show ¬ i + 1 ≤ j by omega]
theorem inv_end (f P : Nat → Bool) (N i : Nat) (h : inv f i P) (hi : (N ≤ 32 ∧ i = 0) ∨ (32 ≤ N ∧ i + 32 = N)) : (∀ j, j < N → P j = false) ↔ feed 0 N f = 0 := by
  rcases hi with ⟨h1, rfl⟩ | ⟨h1, h2⟩
  · have e : ∀ j, P j = f j := fun j => by rw [h j]; simp [feed]
    constructor
    · intro ha
      rw [feed_zero N 0 f (fun i hi => by rw [← e]; exact ha i hi), stpN_zero]
    · intro h0 j hj
      rw [e]; exact feed_inv N h1 f h0 j hj
  · subst h2
    have hr := feed_lt 0 i f (by decide)
    rw [feed_add, feed_self _ 32 (by decide) _ (fun k hk => Nat.testBit_lt_two_pow (Nat.lt_of_lt_of_le hr (Nat.pow_le_pow_right (by decide) hk : 2 ^ 32 ≤ 2 ^ k)))]
    constructor
    · intro ha k hk
      have := ha (i + k) (by omega)
      rw [h] at this
      simp only [show i ≤ i + k by omega, show i + k < i + 32 by omega, decide_true, Bool.true_and, Nat.add_sub_cancel_left] at this
      revert this
      cases f (i + k) <;> cases (feed 0 i f).testBit k <;> decide
    · intro ha j hj
      rw [h]
      by_cases hij : i ≤ j
      · have := ha (j - i) (by omega)
        rw [show i + (j - i) = j by omega] at this
        simp [this, show j < i + 32 by omega]
      · simp [hij]
def powers : List Nat := [32, 28, 27, 26, 25, 23, 22, 20, 19, 18, 14, 13, 11, 10, 9, 8, 6, 0]
def tog (at_ : Nat) (P : Nat → Bool) : Nat → Bool := fun j => P j ^^ decide (j = at_)
def togs (i k : Nat) (P : Nat → Bool) : Nat → Bool := (powers.take k).foldl (fun P w => tog (i + 32 - w) P) P
theorem togs_succ (i k : Nat) (P : Nat → Bool) (hk : k < powers.length) : togs i (k + 1) P = tog (i + 32 - powers[k]) (togs i k P) := by
  unfold togs
  rw [List.take_succ_eq_append_getElem hk, List.foldl_append]; rfl
theorem togs_all (i : Nat) (P : Nat → Bool) (j : Nat) : togs i 18 P j = (P j ^^ (decide (i ≤ j) && gbit (j - i))) := by
  have e : togs i 18 P j = (P j ^^ ((powers.map fun w => decide (j = i + 32 - w)).foldl (· ^^ ·) false)) := by
    simp only [togs, powers, List.take, List.foldl, tog, List.map, Bool.xor_assoc, Bool.false_xor]
  rw [e]; congr 1
  by_cases h : i ≤ j ∧ j ≤ i + 32
  · obtain ⟨h1, h2⟩ := h
    obtain ⟨m, rfl⟩ : ∃ m, j = i + m := ⟨j - i, by omega⟩
    have hm : m < 33 := by omega
    have e2 : (powers.map fun w => decide (i + m = i + 32 - w)) = powers.map fun w => decide (m = 32 - w) := by
      apply List.map_congr_left; intro w hw
      have : w ≤ 32 := by revert hw w; decide
      congr 1; apply propext; omega
    rw [e2, Nat.add_sub_cancel_left]
    simp only [show i ≤ i + m by omega, decide_true, Bool.true_and]
    clear e e2 h1 h2
    revert m; decide
  · have e2 : (powers.map fun w => decide (j = i + 32 - w)) = powers.map fun w => false := by
      apply List.map_congr_left; intro w hw
      have : w ≤ 32 := by revert hw w; decide
      rw [decide_eq_false]; omega
    rw [e2]
    by_cases h1 : i ≤ j
    · have : ¬ j - i ≤ 32 := by omega
      simp [gbit, this, powers]
    · simp [h1, powers]
end Go.Proofs.Ytncooadaeifekaa.M
namespace Go.Proofs.Ytncooadaeifekaa.M
def leB : Nat → Nat → List Nat
  | 0, _ => []
  | w + 1, v => v % 256 :: leB w (v / 256)
def leV : List Nat → Nat
  | [] => 0
  | c :: l => c + 256 * leV l
theorem leB_length (w v : Nat) : (leB w v).length = w := by
  induction w generalizing v with
  | zero => rfl
  | succ w ih => simp [leB, ih]
theorem leB_lt (w v : Nat) : ∀ c ∈ leB w v, c < 256 := by
  induction w generalizing v with
  | zero => simp [leB]
  | succ w ih =>
    intro c hc
    simp only [leB, List.mem_cons] at hc
    rcases hc with rfl | hc
    · omega
    · exact ih _ c hc
theorem leV_leB (w v : Nat) (h : v < 256 ^ w) : leV (leB w v) = v := by
  induction w generalizing v with
  | zero => simp [leB, leV] at *; omega
  | succ w ih =>
    rw [leB, leV, ih _ (by rw [Nat.pow_succ] at h; omega)]; omega
theorem leV_lt (l : List Nat) (h : ∀ c ∈ l, c < 256) : leV l < 256 ^ l.length := by
  induction l with
  | nil => simp [leV]
  | cons c l ih =>
    have h1 := h c (by simp)
    have h2 := ih fun x hx => h x (by simp [hx])
    rw [leV, List.length_cons, Nat.pow_succ]; omega
theorem leB_leV (l : List Nat) (h : ∀ c ∈ l, c < 256) : leB l.length (leV l) = l := by
  induction l with
  | nil => rfl
  | cons c l ih =>
    have h1 := h c (by simp)
    have h2 := ih fun x hx => h x (by simp [hx])
    rw [List.length_cons, leB, leV, show (c + 256 * leV l) % 256 = c by omega, show (c + 256 * leV l) / 256 = leV l by omega, h2]
theorem leB_succ' (w v : Nat) : leB (w + 1) v = leB w v ++ [v / 256 ^ w % 256] := by
  induction w generalizing v with
  | zero => simp [leB]
  | succ w ih =>
    rw [leB, ih, leB, List.cons_append, Nat.div_div_eq_div_mul, Nat.pow_succ, Nat.mul_comm 256]
theorem leV_append (a b : List Nat) : leV (a ++ b) = leV a + 256 ^ a.length * leV b := by
  induction a with
  | nil => simp [leV]
  | cons c a ih =>
    rw [List.cons_append, leV, leV, ih, List.length_cons, Nat.pow_succ, Nat.mul_add, ← Nat.mul_assoc, Nat.mul_comm 256 (256 ^ _)]; omega
end Go.Proofs.Ytncooadaeifekaa.M
