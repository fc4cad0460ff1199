/- The plain mathematics of the CRC sums: the register's shift is linear over exclusive or and injective; no program in sight. -/
namespace Go.Proofs.Ytgjenjgiepheoaa.Crc

def poly : Nat := 2197175160

/-- One shift of the register. -/
def sh (x : Nat) : Nat := if x % 2 = 1 then (x / 2) ^^^ poly else x / 2

/-- Some shifts. -/
def shn : Nat → Nat → Nat
  | 0, x => x
  | k + 1, x => shn k (sh x)

theorem shn_add (a b x : Nat) : shn (a + b) x = shn b (shn a x) := by
  induction a generalizing x with
  | zero => simp [shn]
  | succ a ih => rw [Nat.succ_add]; exact ih (sh x)

theorem shn_succ (k x : Nat) : shn (k + 1) x = sh (shn k x) := shn_add k 1 x

theorem xor_mod2 (a b : Nat) : (a ^^^ b) % 2 = (a % 2 + b % 2) % 2 := by
  have h := @Nat.xor_mod_two_eq_one a b
  omega

theorem sh_xor (a b : Nat) : sh (a ^^^ b) = sh a ^^^ sh b := by
  unfold sh
  have h := xor_mod2 a b
  have hd : (a ^^^ b) / 2 = a / 2 ^^^ b / 2 := Nat.xor_div_two
  by_cases ha : a % 2 = 1 <;> by_cases hb : b % 2 = 1
  · rw [if_neg (by omega), if_pos ha, if_pos hb, hd]
    rw [Nat.xor_comm (b / 2) poly, Nat.xor_assoc, ← Nat.xor_assoc poly poly, Nat.xor_self, Nat.zero_xor]
  · rw [if_pos (by omega), if_pos ha, if_neg hb, hd, Nat.xor_assoc, Nat.xor_assoc, Nat.xor_comm poly]
  · rw [if_pos (by omega), if_neg ha, if_pos hb, hd, Nat.xor_assoc]
  · rw [if_neg (by omega), if_neg ha, if_neg hb, hd]

theorem shn_xor (k a b : Nat) : shn k (a ^^^ b) = shn k a ^^^ shn k b := by
  induction k generalizing a b with
  | zero => rfl
  | succ k ih => show shn k (sh (a ^^^ b)) = _; rw [sh_xor, ih]; rfl

theorem sh_lt {x : Nat} (h : x < 4294967296) : sh x < 4294967296 := by
  unfold sh
  split
  · exact Nat.xor_lt_two_pow (n := 32) (by omega) (by decide)
  · omega

theorem shn_lt (k : Nat) {x : Nat} (h : x < 4294967296) : shn k x < 4294967296 := by
  induction k generalizing x with
  | zero => exact h
  | succ k ih => exact ih (sh_lt h)

/-- The shift loses nothing: the polynomial's highest bit tells which way was gone. -/
theorem sh_inj {a b : Nat} (ha : a < 4294967296) (hb : b < 4294967296) (h : sh a = sh b) : a = b := by
  have hp : ∀ y, y < 2147483648 → (y ^^^ poly) / 2147483648 = 1 := by
    intro y hy
    have := @Nat.xor_div_two_pow y poly 31
    rw [show (2147483648 : Nat) = 2 ^ 31 from rfl, this, Nat.div_eq_of_lt (by simpa using hy)]
    decide
  have hx : ∀ y z, y ^^^ poly = z ^^^ poly → y = z := fun y z e => by
    have := congrArg (· ^^^ poly) e
    simpa [Nat.xor_assoc] using this
  unfold sh at h
  by_cases h1 : a % 2 = 1 <;> by_cases h2 : b % 2 = 1
  · rw [if_pos h1, if_pos h2] at h
    have := hx _ _ h
    omega
  · rw [if_pos h1, if_neg h2] at h
    have := hp (a / 2) (by omega)
    rw [h] at this
    omega
  · rw [if_neg h1, if_pos h2] at h
    have := hp (b / 2) (by omega)
    rw [← h] at this
    omega
  · rw [if_neg h1, if_neg h2] at h
    omega

theorem shn_inj (k : Nat) {a b : Nat} (ha : a < 4294967296) (hb : b < 4294967296) (h : shn k a = shn k b) : a = b := by
  induction k generalizing a b with
  | zero => exact h
  | succ k ih => exact sh_inj ha hb (ih (sh_lt ha) (sh_lt hb) h)

theorem sh_double (x : Nat) : sh (2 * x) = x := by
  unfold sh
  rw [if_neg (by omega)]
  omega

theorem shn4_mul (x : Nat) : shn 4 (16 * x) = x := by
  show sh (sh (sh (sh (16 * x)))) = x
  rw [show 16 * x = 2 * (2 * (2 * (2 * x))) by omega]
  simp only [sh_double]

theorem split_low (j y : Nat) : y = (2 ^ j * (y / 2 ^ j)) ^^^ (y % 2 ^ j) := by
  apply Nat.eq_of_testBit_eq
  intro i
  rw [Nat.testBit_xor, Nat.testBit_two_pow_mul, Nat.testBit_mod_two_pow, Nat.testBit_div_two_pow]
  by_cases h : i < j
  · simp [h, Nat.not_le.2 h]
  · simp [h, Nat.le_of_not_lt h]

/-- A nibble's step by the table is four shifts. -/
theorem nibble (y : Nat) : shn 4 y = y / 16 ^^^ shn 4 (y % 16) := by
  conv => lhs; rw [split_low 4 y]
  rw [shn_xor]
  rw [show (2 : Nat) ^ 4 = 16 from rfl, shn4_mul]

theorem xor_lt16 {x b : Nat} (hb : b < 16) : (x ^^^ b) / 16 = x / 16 := by
  have := @Nat.xor_div_two_pow x b 4
  rw [show (2 : Nat) ^ 4 = 16 from rfl] at this
  rw [this, Nat.div_eq_of_lt hb, Nat.xor_zero]

/-- The program's step with a nibble. -/
theorem step4 {x b : Nat} (hb : b < 16) : x / 16 ^^^ shn 4 ((x ^^^ b) % 16) = shn 4 (x ^^^ b) := by
  rw [nibble (x ^^^ b), xor_lt16 hb]

/-- A byte is its two nibbles. -/
theorem byte_step (x c : Nat) : shn 4 (shn 4 (x ^^^ c % 16) ^^^ c / 16) = shn 8 (x ^^^ c) := by
  conv => rhs; rw [split_low 4 c]
  rw [show (2 : Nat) ^ 4 = 16 from rfl, Nat.xor_comm (16 * (c / 16)), ← Nat.xor_assoc, show (8 : Nat) = 4 + 4 from rfl, shn_add, shn_xor 4 (x ^^^ c % 16), shn4_mul]

/-- The register after some bytes. -/
def run (x : Nat) (l : List UInt8) : Nat := l.foldl (fun x c => shn 8 (x ^^^ c.toNat)) x

theorem run_nil (x : Nat) : run x [] = x := rfl
theorem run_cons (x : Nat) (c : UInt8) (l : List UInt8) : run x (c :: l) = run (shn 8 (x ^^^ c.toNat)) l := rfl
theorem run_append (x : Nat) (a b : List UInt8) : run x (a ++ b) = run (run x a) b := List.foldl_append
theorem run_snoc (x : Nat) (l : List UInt8) (c : UInt8) : run x (l ++ [c]) = shn 8 (run x l ^^^ c.toNat) := by rw [run_append]; rfl

theorem byte_lt (c : UInt8) : c.toNat < 256 := c.toNat_lt

theorem run_lt {x : Nat} (l : List UInt8) (h : x < 4294967296) : run x l < 4294967296 := by
  induction l generalizing x with
  | nil => exact h
  | cons c l ih => exact ih (shn_lt 8 (Nat.xor_lt_two_pow (n := 32) h (by have := byte_lt c; omega)))

def inv (x : Nat) : Nat := 4294967295 - x
/-- Update of the specification. -/
def upd (s : Nat) (l : List UInt8) : Nat := inv (run (inv s) l)
def sum (l : List UInt8) : Nat := upd 0 l

theorem inv_lt (x : Nat) : inv x < 4294967296 := by unfold inv; omega
theorem inv_inv {x : Nat} (h : x < 4294967296) : inv (inv x) = x := by unfold inv; omega
theorem upd_lt (s : Nat) (l : List UInt8) : upd s l < 4294967296 := inv_lt _
theorem sum_lt (l : List UInt8) : sum l < 4294967296 := inv_lt _
theorem upd_append (s : Nat) (a b : List UInt8) : upd s (a ++ b) = upd (upd s a) b := by
  unfold upd
  rw [run_append, inv_inv (run_lt a (inv_lt s))]

theorem inv_xor {x : Nat} (h : x < 4294967296) : inv x = x ^^^ 4294967295 := by
  unfold inv
  apply Nat.eq_of_testBit_eq
  intro i
  have := @Nat.testBit_two_pow_sub_succ x 32 h i
  rw [show (4294967295 : Nat) - x = 2 ^ 32 - (x + 1) by omega, this, Nat.testBit_xor, show (4294967295 : Nat) = 2 ^ 32 - 1 from rfl, Nat.testBit_two_pow_sub_one]
  by_cases hi : i < 32
  · simp [hi]
  · have hx : x.testBit i = false := Nat.testBit_lt_two_pow (Nat.lt_of_lt_of_le h (show (2 : Nat) ^ 32 ≤ 2 ^ i from Nat.pow_le_pow_right (by decide) (Nat.le_of_not_lt hi)))
    simp [hi, hx]

end Go.Proofs.Ytgjenjgiepheoaa.Crc
