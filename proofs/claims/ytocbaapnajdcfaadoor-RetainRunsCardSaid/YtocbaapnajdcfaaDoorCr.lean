/- The sum of package crc and of its reference, bit by bit: plain law. -/
namespace Go.Proofs.YtocbaapnajdcfaaDoor.Crc
/-- One bit of the sum. -/
def bit1 (n : Nat) : Nat := if 65536 ≤ 2 * n then (2 * n - 65536) ^^^ 4129 else 2 * n
def bit4 (n : Nat) : Nat := bit1 (bit1 (bit1 (bit1 n)))
def bit8 (n : Nat) : Nat := bit4 (bit4 n)
def quart (n : Nat) : Nat := [0x0000, 0x1021, 0x2042, 0x3063, 0x4084, 0x50A5, 0x60C6, 0x70E7, 0x8108, 0x9129, 0xA14A, 0xB16B, 0xC18C, 0xD1AD, 0xE1CE, 0xF1EF].getD n 0

theorem add_xor (h l k : Nat) (hl : l < 2 ^ k) : h * 2 ^ k + l = h * 2 ^ k ^^^ l := by
  rw [← Nat.shiftLeft_eq, Nat.shiftLeft_add_eq_or_of_lt hl]
  apply Nat.eq_of_testBit_eq
  intro i
  simp only [Nat.testBit_xor, Nat.testBit_or, Nat.testBit_shiftLeft]
  by_cases c : k ≤ i
  · have : l.testBit i = false := Nat.testBit_lt_two_pow (Nat.lt_of_lt_of_le hl (Nat.pow_le_pow_right (by omega) c))
    rw [this]; simp
  · simp [c]
theorem bit1_eq {n : Nat} (h : n < 65536) : bit1 n = 2 * n ^^^ (69665 * (n / 32768)) := by
  unfold bit1
  split
  · have e : n / 32768 = 1 := by omega
    obtain ⟨m, rfl, hm⟩ : ∃ m, n = 32768 + m ∧ m < 32768 := ⟨n - 32768, by omega, by omega⟩
    have k : (69665 * 1 : Nat) = 65536 ^^^ 4129 := by decide
    have k2 := add_xor 1 (2 * m) 16 (by omega)
    rw [show 1 * 2 ^ 16 = 65536 by decide] at k2
    rw [e, show 2 * (32768 + m) - 65536 = 2 * m by omega, show 2 * (32768 + m) = 65536 + 2 * m by omega, k2, k, Nat.xor_comm 65536 (2 * m), Nat.xor_assoc, ← Nat.xor_assoc 65536, Nat.xor_self, Nat.zero_xor]
  · rw [show n / 32768 = 0 by omega]; simp

theorem bit1_lt {n : Nat} (h : n < 65536) : bit1 n < 65536 := by
  unfold bit1
  split
  · exact Nat.xor_lt_two_pow (n := 16) (by omega) (by omega)
  · omega

theorem xor_div (a b k : Nat) : (a ^^^ b) / 2 ^ k = (a / 2 ^ k) ^^^ (b / 2 ^ k) := by
  simp only [← Nat.shiftRight_eq_div_pow, Nat.shiftRight_xor_distrib]
theorem xor_mul (a b k : Nat) : (a ^^^ b) * 2 ^ k = (a * 2 ^ k) ^^^ (b * 2 ^ k) := by
  simp only [← Nat.shiftLeft_eq, Nat.shiftLeft_xor_distrib]
theorem xor_lt16 {a b : Nat} (ha : a < 65536) (hb : b < 65536) : a ^^^ b < 65536 := Nat.xor_lt_two_pow (n := 16) ha hb

theorem bit1_xor {a b : Nat} (ha : a < 65536) (hb : b < 65536) : bit1 (a ^^^ b) = bit1 a ^^^ bit1 b := by
  rw [bit1_eq ha, bit1_eq hb, bit1_eq (xor_lt16 ha hb)]
  have e1 : 2 * (a ^^^ b) = 2 * a ^^^ 2 * b := by have := xor_mul a b 1; simpa [Nat.mul_comm] using this
  have e2 : (a ^^^ b) / 32768 = a / 32768 ^^^ b / 32768 := xor_div a b 15
  rw [e1, e2]
  have ha' : a / 32768 = 0 ∨ a / 32768 = 1 := by omega
  have hb' : b / 32768 = 0 ∨ b / 32768 = 1 := by omega
  have e3 : 69665 * (a / 32768 ^^^ b / 32768) = 69665 * (a / 32768) ^^^ 69665 * (b / 32768) := by
    rcases ha' with h | h <;> rcases hb' with h' | h' <;> rw [h, h'] <;> decide
  rw [e3]
  ac_rfl

theorem bit4_lt {n : Nat} (h : n < 65536) : bit4 n < 65536 := bit1_lt (bit1_lt (bit1_lt (bit1_lt h)))
theorem bit8_lt {n : Nat} (h : n < 65536) : bit8 n < 65536 := bit4_lt (bit4_lt h)
theorem bit4_xor {a b : Nat} (ha : a < 65536) (hb : b < 65536) : bit4 (a ^^^ b) = bit4 a ^^^ bit4 b := by
  unfold bit4
  rw [bit1_xor ha hb, bit1_xor (bit1_lt ha) (bit1_lt hb), bit1_xor (bit1_lt (bit1_lt ha)) (bit1_lt (bit1_lt hb)), bit1_xor (bit1_lt (bit1_lt (bit1_lt ha))) (bit1_lt (bit1_lt (bit1_lt hb)))]
theorem bit8_xor {a b : Nat} (ha : a < 65536) (hb : b < 65536) : bit8 (a ^^^ b) = bit8 a ^^^ bit8 b := by
  unfold bit8
  rw [bit4_xor ha hb, bit4_xor (bit4_lt ha) (bit4_lt hb)]
theorem bit4_small {l : Nat} (h : l < 4096) : bit4 l = l * 16 := by
  have b : ∀ n, n < 32768 → bit1 n = 2 * n := fun n hn => by unfold bit1; rw [if_neg (by omega)]
  unfold bit4
  rw [b l (by omega), b (2 * l) (by omega), b (2 * (2 * l)) (by omega), b _ (by omega)]
  omega
theorem bit8_small {l : Nat} (h : l < 256) : bit8 l = l * 256 := by
  unfold bit8
  rw [bit4_small (l := l) (by omega), bit4_small (by omega)]
  omega
theorem quart_eq : ∀ h < 16, bit4 (h * 4096) = quart h := by decide +kernel
/-- Four bits at once. -/
theorem bit4_eq {n : Nat} (h : n < 65536) : bit4 n = (n * 16 % 65536) ^^^ quart (n / 4096) := by
  have e : n = n / 4096 * 4096 ^^^ n % 4096 := by
    have := add_xor (n / 4096) (n % 4096) 12 (by omega)
    rw [← show (2 ^ 12 : Nat) = 4096 by decide, ← this]; omega
  have e2 : n * 16 % 65536 = n % 4096 * 16 := by omega
  rw [e2]
  conv => lhs; rw [e]
  rw [bit4_xor (by omega) (by omega), quart_eq _ (by omega), bit4_small (by omega), Nat.xor_comm]

theorem bit1_zero {n : Nat} (h : bit1 n = 0) : n = 0 := by
  unfold bit1 at h
  split at h
  · have : 2 * n - 65536 = 4129 := by
      have h2 : (2 * n - 65536) ^^^ 4129 ^^^ 4129 = 0 ^^^ 4129 := by rw [h]
      simpa [Nat.xor_assoc] using h2
    omega
  · omega
theorem bit8_zero {n : Nat} (h : bit8 n = 0) : n = 0 := by
  unfold bit8 bit4 at h
  iterate 8 replace h := bit1_zero h
  exact h
theorem bit8_high : ∀ h < 256, bit8 (h * 256) % 256 = 0 → h = 0 := by decide +kernel
theorem xor_mod256 (a b : Nat) : (a ^^^ b) % 256 = (a % 256) ^^^ (b % 256) := Nat.xor_mod_two_pow (n := 8)
theorem split8 (n : Nat) : n = n / 256 * 256 ^^^ n % 256 := by
  have := add_xor (n / 256) (n % 256) 8 (by omega)
  rw [show (2 ^ 8 : Nat) = 256 by decide] at this
  rw [← this]; omega
theorem bit8_split {n h l : Nat} (e : n = h * 256 ^^^ l) (hh : h < 256) (hl : l < 256) : bit8 n = bit8 (h * 256) ^^^ l * 256 := by
  have a := bit8_xor (a := h * 256) (b := l) (by omega) (by omega)
  have b := bit8_small hl
  rw [e, a, b]
theorem bit8_low {n : Nat} (h : n < 65536) (h0 : bit8 n % 256 = 0) : n < 256 := by
  have e := bit8_split (split8 n) (by omega) (by omega)
  have k := bit8_high (n / 256) (by omega)
  rw [e, xor_mod256] at h0
  simp at h0
  have := k h0
  omega

/-- A byte more. -/
def byte1 (n : Nat) (c : UInt8) : Nat := bit8 (n ^^^ c.toNat * 256)
def more (n : Nat) (l : List UInt8) : Nat := l.foldl byte1 n
def sum (l : List UInt8) : Nat := more 65535 l
theorem byte1_lt {n : Nat} (h : n < 65536) (c : UInt8) : byte1 n c < 65536 := bit8_lt (xor_lt16 h (by have := c.toNat_lt; omega))
theorem more_lt {n : Nat} (h : n < 65536) (l : List UInt8) : more n l < 65536 := by
  induction l generalizing n with
  | nil => exact h
  | cons c l ih =>
    have e : more n (c :: l) = more (byte1 n c) l := List.foldl_cons ..
    rw [e]
    exact ih (byte1_lt h c)
theorem sum_lt (l : List UInt8) : sum l < 65536 := more_lt (by decide) l
theorem more_app (n : Nat) (a b : List UInt8) : more n (a ++ b) = more (more n a) b := List.foldl_append
theorem bit8_00 : bit8 (0 * 256) = 0 := by decide
theorem bit8_0 : bit8 0 = 0 := by decide
/-- Two bytes behind a sum bring 0 just where they are the sum. -/
theorem more_two {n : Nat} (h : n < 65536) (x y : UInt8) : more n [x, y] = 0 ↔ x.toNat = n / 256 ∧ y.toNat = n % 256 := by
  have hx := x.toNat_lt
  have hy := y.toNat_lt
  have hm : more n [x, y] = bit8 (bit8 (n ^^^ x.toNat * 256) ^^^ y.toNat * 256) := by simp only [more, List.foldl_cons, List.foldl_nil, byte1]
  rw [hm]
  generalize x.toNat = x at *
  generalize y.toNat = y at *
  have e := split8 n
  obtain ⟨a, ha⟩ : ∃ a, n / 256 = a := ⟨_, rfl⟩
  obtain ⟨b, hb⟩ : ∃ b, n % 256 = b := ⟨_, rfl⟩
  rw [ha, hb] at e
  rw [ha, hb]
  have la : a < 256 := by omega
  have lb : b < 256 := by omega
  clear ha hb
  have xm : ∀ a b : Nat, a * 256 ^^^ b * 256 = (a ^^^ b) * 256 := fun a b => (xor_mul a b 8).symm
  have e2 : n ^^^ x * 256 = (a ^^^ x) * 256 ^^^ b := by
    rw [e, ← xm]
    ac_rfl
  have hlt : a ^^^ x < 256 := Nat.xor_lt_two_pow (n := 8) (by omega) (by omega)
  have key := bit8_split e2 hlt lb
  have hx16 : n ^^^ x * 256 < 65536 := xor_lt16 h (by omega)
  constructor
  · intro h0
    have h1 := bit8_zero h0
    have h2 : bit8 (n ^^^ x * 256) = y * 256 := by
      have : bit8 (n ^^^ x * 256) ^^^ y * 256 ^^^ y * 256 = 0 ^^^ y * 256 := by rw [h1]
      rwa [Nat.xor_assoc, Nat.xor_self, Nat.xor_zero, Nat.zero_xor] at this
    have h3 := bit8_low hx16 (by rw [h2]; omega)
    have h4 : a ^^^ x = 0 := by
      have h5 : (n ^^^ x * 256) / 256 = a ^^^ x := by
        have := xor_div ((a ^^^ x) * 256) b 8
        rw [show (2 ^ 8 : Nat) = 256 by decide] at this
        rw [e2, this, show b / 256 = 0 by omega, Nat.xor_zero]
        omega
      omega
    have h6 : x = a := by
      have : a ^^^ x ^^^ x = 0 ^^^ x := by rw [h4]
      rw [Nat.xor_assoc, Nat.xor_self, Nat.xor_zero, Nat.zero_xor] at this
      exact this.symm
    refine ⟨h6, ?_⟩
    rw [key, h4, bit8_00, Nat.zero_xor] at h2
    omega
  · rintro ⟨rfl, rfl⟩
    rw [key, Nat.xor_self, bit8_00, Nat.zero_xor, Nat.xor_self]
    exact bit8_0
/-- A text with two bytes behind it has the sum 0 just where they are its sum. -/
theorem sum_two (l : List UInt8) (x y : UInt8) : sum (l ++ [x, y]) = 0 ↔ x.toNat = sum l / 256 ∧ y.toNat = sum l % 256 := by
  unfold sum
  rw [more_app]
  exact more_two (sum_lt l) x y
def sealL (l : List UInt8) : List UInt8 := l ++ [UInt8.ofNat (sum l / 256), UInt8.ofNat (sum l % 256)]
theorem quart_lt (n : Nat) : quart n < 65536 := by
  by_cases h : n < 16
  · have : ∀ n < 16, quart n < 65536 := by decide
    exact this n h
  · have : quart n = 0 := by unfold quart; simp [List.getD]; rw [List.getElem?_eq_none (by simp; omega)]; rfl
    omega
/-- A byte by two nibbles. -/
theorem nibs {m c S : Nat} (hm : m < 65536) (hc : c < 256) (hS : (m * 16 % 65536) ^^^ quart ((m / 4096 ^^^ c / 16) % 16) = S) :
    S < 65536 ∧ (S * 16 % 65536) ^^^ quart ((S / 4096 ^^^ c) % 16) = bit8 (m ^^^ c * 256) := by
  have hlt : S < 65536 := hS ▸ xor_lt16 (by omega) (quart_lt _)
  refine ⟨hlt, ?_⟩
  have hn : m ^^^ c * 256 < 65536 := xor_lt16 hm (by omega)
  have hx : m / 4096 ^^^ c / 16 < 16 := Nat.xor_lt_two_pow (n := 4) (by omega) (by omega)
  have d1 : (m ^^^ c * 256) / 4096 = m / 4096 ^^^ c / 16 := by
    have := xor_div m (c * 256) 12
    rw [show (2 ^ 12 : Nat) = 4096 by decide] at this
    rw [this, show c * 256 / 4096 = c / 16 by omega]
  have m1 : (m ^^^ c * 256) * 16 % 65536 = (m * 16 % 65536) ^^^ (c % 16 * 4096) := by
    have e1 : (m ^^^ c * 256) * 16 = m * 16 ^^^ c * 4096 := by
      have := xor_mul m (c * 256) 4
      rw [show (2 ^ 4 : Nat) = 16 by decide] at this
      rw [this, show c * 256 * 16 = c * 4096 by omega]
    have e2 : (m * 16 ^^^ c * 4096) % 65536 = (m * 16 % 65536) ^^^ (c * 4096 % 65536) := Nat.xor_mod_two_pow (n := 16)
    rw [e1, e2, show c * 4096 % 65536 = c % 16 * 4096 by omega]
  have b1 : bit4 (m ^^^ c * 256) = S ^^^ (c % 16 * 4096) := by
    rw [bit4_eq hn, m1, d1, ← hS, Nat.mod_eq_of_lt hx]
    ac_rfl
  have hT : S ^^^ (c % 16 * 4096) < 65536 := xor_lt16 hlt (by omega)
  have d2 : (S ^^^ (c % 16 * 4096)) / 4096 = S / 4096 ^^^ c % 16 := by
    have := xor_div S (c % 16 * 4096) 12
    rw [show (2 ^ 12 : Nat) = 4096 by decide] at this
    rw [this, show c % 16 * 4096 / 4096 = c % 16 by omega]
  have m2 : (S ^^^ (c % 16 * 4096)) * 16 % 65536 = S * 16 % 65536 := by
    have e1 : (S ^^^ (c % 16 * 4096)) * 16 = S * 16 ^^^ c % 16 * 65536 := by
      have := xor_mul S (c % 16 * 4096) 4
      rw [show (2 ^ 4 : Nat) = 16 by decide] at this
      rw [this, show c % 16 * 4096 * 16 = c % 16 * 65536 by omega]
    have e2 : (S * 16 ^^^ c % 16 * 65536) % 65536 = (S * 16 % 65536) ^^^ (c % 16 * 65536 % 65536) := Nat.xor_mod_two_pow (n := 16)
    rw [e1, e2, show c % 16 * 65536 % 65536 = 0 by omega, Nat.xor_zero]
  have x2 : (S / 4096 ^^^ c) % 16 = S / 4096 ^^^ c % 16 := by
    have : (S / 4096 ^^^ c) % 16 = (S / 4096 % 16) ^^^ (c % 16) := Nat.xor_mod_two_pow (n := 4)
    rw [this, show S / 4096 % 16 = S / 4096 by omega]
  unfold bit8
  rw [b1, bit4_eq hT, d2, m2, x2]
def bitsN : Nat → Nat → Nat
  | 0, n => n
  | k + 1, n => bit1 (bitsN k n)
theorem bitsN_lt {n : Nat} (h : n < 65536) : ∀ k, bitsN k n < 65536
  | 0 => h
  | k + 1 => bit1_lt (bitsN_lt h k)
theorem bitsN_8 (n : Nat) : bitsN 8 n = bit8 n := by simp only [bitsN, bit8, bit4]
theorem bit1_no {n : Nat} (h : ¬ 65536 ≤ 2 * n) : bit1 n = 2 * n := if_neg h
theorem bit1_yes {n : Nat} (h : 65536 ≤ 2 * n) : bit1 n = (2 * n - 65536) ^^^ 4129 := if_pos h
end Go.Proofs.YtocbaapnajdcfaaDoor.Crc
