/-
  The check of bytes (CRC-32) as plain arithmetic: one bit's step, one byte's step, their linearity and injectivity, the table of half bytes. Conditions: states below 2^32. No program in sight.
-/
namespace Go.Proofs.YtnkcmlkehholhaaDoor.Crcm

/-- one bit's step -/
def bit (n : Nat) : Nat := (n / 2) ^^^ (if n % 2 = 1 then 3988292384 else 0)
/-- k bits' steps -/
def bits : Nat → Nat → Nat
  | 0, n => n
  | k + 1, n => bits k (bit n)
/-- one byte more -/
def step (c b : Nat) : Nat := bits 8 (c ^^^ b)
/-- the state behind bytes -/
def run (c : Nat) : List UInt8 → Nat
  | [] => c
  | b :: l => run (step c b.toNat) l
/-- the check -/
def sum (l : List UInt8) : Nat := run 4294967295 l ^^^ 4294967295

theorem div2_xor (a b : Nat) : (a ^^^ b) / 2 = (a / 2) ^^^ (b / 2) := by
  have h : ∀ x : Nat, x / 2 = x >>> 1 := fun x => by rw [Nat.shiftRight_eq_div_pow]
  rw [h, h, h, Nat.shiftRight_xor_distrib]
theorem mod2_xor (a b : Nat) : (a ^^^ b) % 2 = (a % 2 + b % 2) % 2 := by
  have h : ∀ x : Nat, x % 2 = (x.testBit 0).toNat := fun x => by
    rw [Nat.testBit_zero]; rcases Nat.mod_two_eq_zero_or_one x with h | h <;> simp [h]
  rw [h a, h b, h (a ^^^ b), Nat.testBit_xor]
  cases a.testBit 0 <;> cases b.testBit 0 <;> rfl

theorem bit_xor (a b : Nat) : bit (a ^^^ b) = bit a ^^^ bit b := by
  unfold bit
  rw [div2_xor, mod2_xor]
  rcases Nat.mod_two_eq_zero_or_one a with ha | ha <;> rcases Nat.mod_two_eq_zero_or_one b with hb | hb <;> simp only [ha, hb, Nat.reduceAdd, Nat.reduceMod, Nat.zero_ne_one, if_true, if_false, Nat.xor_zero]
  · simp [Nat.xor_assoc]
  · rw [Nat.xor_assoc, Nat.xor_assoc, Nat.xor_comm 3988292384]
  · rw [Nat.xor_assoc, Nat.xor_comm (b / 2) 3988292384, ← Nat.xor_assoc (3988292384), Nat.xor_self, Nat.zero_xor]
theorem bits_xor (k : Nat) : ∀ a b : Nat, bits k (a ^^^ b) = bits k a ^^^ bits k b := by
  induction k with
  | zero => intro a b; rfl
  | succ k ih => intro a b; simp only [bits]; rw [bit_xor, ih]
theorem bit_zero : bit 0 = 0 := by decide
theorem bits_zero (k : Nat) : bits k 0 = 0 := by
  induction k with
  | zero => rfl
  | succ k ih => simp only [bits, bit_zero, ih]
theorem bits_add (j k n : Nat) : bits (j + k) n = bits k (bits j n) := by
  induction j generalizing n with
  | zero => simp [bits]
  | succ j ih => rw [Nat.add_right_comm]; simp only [bits]; exact ih _

theorem bit_lt {n : Nat} (h : n < 4294967296) : bit n < 4294967296 := by
  unfold bit
  have : (n / 2) ^^^ (if n % 2 = 1 then 3988292384 else 0) < 2 ^ 32 := Nat.xor_lt_two_pow (by omega) (by split <;> omega)
  omega
theorem bits_lt (k : Nat) : ∀ {n : Nat}, n < 4294967296 → bits k n < 4294967296 := by
  induction k with
  | zero => intro n h; exact h
  | succ k ih => intro n h; exact ih (bit_lt h)
theorem xor_lt {a b : Nat} (ha : a < 4294967296) (hb : b < 4294967296) : a ^^^ b < 4294967296 := by
  have : a ^^^ b < 2 ^ 32 := Nat.xor_lt_two_pow (by omega) (by omega)
  omega
theorem step_lt {c b : Nat} (hc : c < 4294967296) (hb : b < 256) : step c b < 4294967296 := bits_lt 8 (xor_lt hc (by omega))
theorem run_lt (l : List UInt8) : ∀ {c : Nat}, c < 4294967296 → run c l < 4294967296 := by
  induction l with
  | nil => intro c h; exact h
  | cons b l ih => intro c h; exact ih (step_lt h b.toNat_lt)
theorem sum_lt (l : List UInt8) : sum l < 4294967296 := xor_lt (run_lt l (by omega)) (by omega)

/-- the step loses nothing -/
theorem bit_eq_zero {n : Nat} (h : n < 4294967296) (h0 : bit n = 0) : n = 0 := by
  unfold bit at h0
  rcases Nat.mod_two_eq_zero_or_one n with hn | hn
  · rw [if_neg (by omega), Nat.xor_zero] at h0; omega
  · rw [if_pos hn] at h0
    have h1 : n / 2 = 3988292384 := by
      have := congrArg (· ^^^ 3988292384) h0
      simpa [Nat.xor_assoc] using this
    omega
theorem bits_eq_zero (k : Nat) : ∀ {n : Nat}, n < 4294967296 → bits k n = 0 → n = 0 := by
  induction k with
  | zero => intro n _ h; exact h
  | succ k ih => intro n h h0; exact bit_eq_zero h (ih (bit_lt h) h0)
theorem xor_eq_zero {a b : Nat} : a ^^^ b = 0 ↔ a = b := by
  constructor
  · intro h
    have := congrArg (· ^^^ b) h
    simpa [Nat.xor_assoc] using this
  · rintro rfl; exact Nat.xor_self a
theorem bits_inj (k : Nat) {a b : Nat} (ha : a < 4294967296) (hb : b < 4294967296) (h : bits k a = bits k b) : a = b := by
  have : bits k (a ^^^ b) = 0 := by rw [bits_xor, h, Nat.xor_self]
  exact xor_eq_zero.1 (bits_eq_zero k (xor_lt ha hb) this)
theorem xor_right_inj {a b c : Nat} (h : a ^^^ c = b ^^^ c) : a = b := by
  have := congrArg (· ^^^ c) h
  simpa [Nat.xor_assoc] using this
theorem step_inj {c d b : Nat} (hc : c < 4294967296) (hd : d < 4294967296) (hb : b < 256) (h : step c b = step d b) : c = d :=
  xor_right_inj (bits_inj 8 (xor_lt hc (by omega)) (xor_lt hd (by omega)) h)
theorem step_inj_byte {c a b : Nat} (hc : c < 4294967296) (ha : a < 256) (hb : b < 256) (h : step c a = step c b) : a = b := by
  have := bits_inj 8 (xor_lt hc (by omega)) (xor_lt hc (by omega)) h
  rw [Nat.xor_comm c, Nat.xor_comm c] at this
  exact xor_right_inj this
theorem run_inj (l : List UInt8) : ∀ {c d : Nat}, c < 4294967296 → d < 4294967296 → run c l = run d l → c = d := by
  induction l with
  | nil => intro c d _ _ h; exact h
  | cons b l ih => intro c d hc hd h; exact step_inj hc hd b.toNat_lt (ih (step_lt hc b.toNat_lt) (step_lt hd b.toNat_lt) h)
theorem run_append (l r : List UInt8) : ∀ c : Nat, run c (l ++ r) = run (run c l) r := by
  induction l with
  | nil => intro c; rfl
  | cons b l ih => intro c; exact ih _

/-- steps over bits that are all nought only shift -/
theorem bits_shift (k : Nat) : ∀ n : Nat, bits k (2 ^ k * n) = n := by
  induction k with
  | zero => intro n; simp [bits]
  | succ k ih =>
    intro n
    have : bit (2 ^ (k + 1) * n) = 2 ^ k * n := by
      unfold bit
      have e : 2 ^ (k + 1) * n = 2 * (2 ^ k * n) := by rw [Nat.pow_succ, Nat.mul_comm (2 ^ k) 2, Nat.mul_assoc]
      rw [e, if_neg (by omega), Nat.xor_zero]; omega
    simp only [bits, this, ih]

/-- what half a byte's steps make -/
def half (n : Nat) : Nat := [0, 498536548, 997073096, 651767980, 1994146192, 1802195444, 1303535960, 1342533948, 3988292384, 4027552580, 3604390888, 3412177804, 2607071920, 2262029012, 2685067896, 3183342108].getD n 0
theorem half_eq : ∀ n, n < 16 → bits 4 n = half n := by decide
theorem split16 (n : Nat) : n = (2 ^ 4 * (n / 16)) ^^^ (n % 16) := by
  have h := Nat.two_pow_add_eq_or_of_lt (i := 4) (b := n % 16) (by omega) (n / 16)
  have h2 : 2 ^ 4 * (n / 16) ^^^ n % 16 = 2 ^ 4 * (n / 16) ||| n % 16 := by
    apply Nat.eq_of_testBit_eq
    intro i
    rw [Nat.testBit_xor, Nat.testBit_or, Nat.testBit_two_pow_mul]
    by_cases hi : 4 ≤ i
    · have : (n % 16).testBit i = false := Nat.testBit_lt_two_pow (Nat.lt_of_lt_of_le (show n % 16 < 2 ^ 4 by omega) (Nat.pow_le_pow_right (by omega) hi))
      simp [this]
    · simp [hi]
  rw [h2, ← h]; omega
theorem bits4 (n : Nat) : bits 4 n = (n / 16) ^^^ half (n % 16) := by
  conv => lhs; rw [split16 n]
  rw [bits_xor, bits_shift, half_eq _ (by omega)]
theorem step_halves (c b : Nat) : step c b = ((((c ^^^ b) / 16) ^^^ half ((c ^^^ b) % 16)) / 16) ^^^ half ((((c ^^^ b) / 16) ^^^ half ((c ^^^ b) % 16)) % 16) := by
  unfold step
  rw [show (8 : Nat) = 4 + 4 from rfl, bits_add, bits4, bits4]

/-- four bytes as one number, fed at once -/
theorem bits8_low (a r : Nat) : bits 8 (a ^^^ 256 * r) = bits 8 a ^^^ r := by
  rw [bits_xor, show 256 * r = 2 ^ 8 * r by omega, bits_shift]
theorem four (a b c d : Nat) : step (step (step (step 0 a) b) c) d = bits 32 (a ^^^ 256 * (b ^^^ 256 * (c ^^^ 256 * d))) := by
  rw [show (32 : Nat) = 8 + (8 + (8 + 8)) from rfl, bits_add, bits8_low, ← Nat.xor_assoc, bits_add, bits8_low, ← Nat.xor_assoc, bits_add, bits8_low]
  simp only [step, Nat.zero_xor]
theorem low_zero {a r : Nat} (ha : a < 256) (h : a ^^^ 256 * r = 0) : a = 0 ∧ r = 0 := by
  have := xor_eq_zero.1 h
  omega
theorem four_lt {a b c d : Nat} (ha : a < 256) (hb : b < 256) (hc : c < 256) (hd : d < 256) : a ^^^ 256 * (b ^^^ 256 * (c ^^^ 256 * d)) < 4294967296 := by
  have h1 : c ^^^ 256 * d < 2 ^ 16 := Nat.xor_lt_two_pow (by omega) (by omega)
  have h2 : b ^^^ 256 * (c ^^^ 256 * d) < 2 ^ 24 := Nat.xor_lt_two_pow (by omega) (by omega)
  have h3 : a ^^^ 256 * (b ^^^ 256 * (c ^^^ 256 * d)) < 2 ^ 32 := Nat.xor_lt_two_pow (by omega) (by omega)
  omega
theorem four_zero {a b c d : Nat} (ha : a < 256) (hb : b < 256) (hc : c < 256) (hd : d < 256) (h : step (step (step (step 0 a) b) c) d = 0) : a = 0 ∧ b = 0 ∧ c = 0 ∧ d = 0 := by
  rw [four] at h
  obtain ⟨h1, h2⟩ := low_zero ha (bits_eq_zero 32 (four_lt ha hb hc hd) h)
  obtain ⟨h3, h4⟩ := low_zero hb h2
  obtain ⟨h5, h6⟩ := low_zero hc h4
  exact ⟨h1, h3, h5, h6⟩
theorem step_xor (c d a b : Nat) : step (c ^^^ d) (a ^^^ b) = step c a ^^^ step d b := by
  unfold step
  rw [← bits_xor]
  congr 1
  rw [Nat.xor_assoc, Nat.xor_assoc, ← Nat.xor_assoc d, ← Nat.xor_assoc a, Nat.xor_comm d a]
/-- THE HARM: where at most four bytes in a row are others, the state is another one -/
theorem harm {s w x y z a b c d : Nat} (ha : a < 256) (hb : b < 256) (hc : c < 256) (hd : d < 256)
    (h : step (step (step (step s w) x) y) z = step (step (step (step s (w ^^^ a)) (x ^^^ b)) (y ^^^ c)) (z ^^^ d)) : a = 0 ∧ b = 0 ∧ c = 0 ∧ d = 0 := by
  have e : step (step (step (step s (w ^^^ a)) (x ^^^ b)) (y ^^^ c)) (z ^^^ d) = step (step (step (step s w) x) y) z ^^^ step (step (step (step 0 a) b) c) d := by
    rw [show s = s ^^^ 0 by simp, step_xor, step_xor, step_xor, step_xor]; simp
  rw [e] at h
  apply four_zero ha hb hc hd
  generalize step (step (step (step 0 a) b) c) d = D at *
  generalize step (step (step (step s w) x) y) z = S at *
  have h2 : 0 ^^^ S = D ^^^ S := by rw [Nat.zero_xor, Nat.xor_comm D S]; exact h
  exact (xor_right_inj h2).symm
end Go.Proofs.YtnkcmlkehholhaaDoor.Crcm
