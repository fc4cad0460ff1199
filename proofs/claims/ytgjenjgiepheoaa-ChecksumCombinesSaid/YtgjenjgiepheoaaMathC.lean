/- The plain mathematics of Combine: multiplying polynomials is shifting. -/
import Derived.Test.YtgjenjgiepheoaaMath
namespace Go.Proofs.Ytgjenjgiepheoaa.Crc

theorem shn_zero' (k : Nat) : shn k 0 = 0 := by
  induction k with
  | zero => rfl
  | succ k ih => exact ih

theorem shn_comm (a b x : Nat) : shn a (shn b x) = shn b (shn a x) := by rw [← shn_add, ← shn_add, Nat.add_comm]

/-- The lowest bits of a number, one more. -/
theorem low_succ (x i : Nat) : x % 2 ^ (i + 1) = (x % 2 ^ i) ^^^ (if x / 2 ^ i % 2 = 1 then 2 ^ i else 0) := by
  apply Nat.eq_of_testBit_eq
  intro j
  rw [Nat.testBit_xor, Nat.testBit_mod_two_pow, Nat.testBit_mod_two_pow]
  have hb : x.testBit i = decide (x / 2 ^ i % 2 = 1) := Nat.testBit_eq_decide_div_mod_eq
  by_cases h : x / 2 ^ i % 2 = 1
  · rw [if_pos h, Nat.testBit_two_pow]
    rw [decide_eq_true h] at hb
    by_cases hij : i = j
    · subst hij; simp [hb]
    · by_cases h1 : j < i
      · simp [hij, h1, show j < i + 1 by omega]
      · simp [hij, h1, show ¬ j < i + 1 by omega]
  · rw [if_neg h, Nat.zero_testBit]
    rw [decide_eq_false h] at hb
    by_cases hij : i = j
    · subst hij; simp [hb]
    · by_cases h1 : j < i
      · simp [h1, show j < i + 1 by omega]
      · simp [h1, show ¬ j < i + 1 by omega]

/-- One round of the matrix' application. -/
theorem apply_step (k x i : Nat) : shn k (x % 2 ^ (i + 1)) = shn k (x % 2 ^ i) ^^^ (if x / 2 ^ i % 2 = 1 then shn k (2 ^ i) else 0) := by
  rw [low_succ, shn_xor]
  split
  · rfl
  · rw [shn_zero']

/-- The product by the reference's rounds. -/
def tmul (a b : Nat) : Nat → Nat
  | 0 => 0
  | t + 1 => tmul a b t ^^^ (if a / 2 ^ (31 - t) % 2 = 1 then shn t b else 0)

theorem tmul_lt (a b t : Nat) (h : b < 4294967296) : tmul a b t < 4294967296 := by
  induction t with
  | zero => show 0 < 4294967296; decide
  | succ t ih =>
    rw [tmul]
    refine Nat.xor_lt_two_pow (n := 32) ih ?_
    split
    · exact shn_lt t h
    · decide

theorem tmul_xor (a x y t : Nat) : tmul a (x ^^^ y) t = tmul a x t ^^^ tmul a y t := by
  induction t with
  | zero => simp [tmul]
  | succ t ih =>
    simp only [tmul]
    rw [ih]
    split
    · rw [shn_xor, Nat.xor_assoc, Nat.xor_assoc, ← Nat.xor_assoc (tmul a y t), Nat.xor_comm (tmul a y t) (shn t x), Nat.xor_assoc]
    · simp only [Nat.xor_zero]

theorem tmul_zero (a t : Nat) : tmul a 0 t = 0 := by
  induction t with
  | zero => rfl
  | succ t ih =>
    rw [tmul, ih, shn_zero']
    simp

theorem tmul_shn (a m b t : Nat) : tmul a (shn m b) t = shn m (tmul a b t) := by
  induction t with
  | zero => exact (shn_zero' m).symm
  | succ t ih =>
    simp only [tmul]
    rw [ih, shn_xor]
    split
    · rw [shn_comm t m]
    · rw [shn_zero']

/-- The one: the highest bit. -/
def one : Nat := 2147483648

theorem shn_one (t : Nat) (h : t ≤ 31) : shn t one = 2 ^ (31 - t) := by
  induction t with
  | zero => rfl
  | succ t ih =>
    rw [shn_succ, ih (by omega), show 31 - t = (31 - (t + 1)) + 1 by omega, Nat.pow_succ, Nat.mul_comm, sh_double]

theorem tmul_one_aux (a t : Nat) (ht : t ≤ 32) (ha : a < 4294967296) : tmul a one t = a / 2 ^ (32 - t) * 2 ^ (32 - t) := by
  induction t with
  | zero =>
    rw [tmul, show (32 - 0) = 32 from rfl, Nat.div_eq_of_lt (by simpa using ha), Nat.zero_mul]
  | succ t ih =>
    rw [tmul, ih (by omega), shn_one t (by omega)]
    have e : 32 - t = (31 - t) + 1 := by omega
    rw [show 32 - (t + 1) = 31 - t by omega, e]
    obtain ⟨i, hi⟩ : ∃ i, i = 31 - t := ⟨_, rfl⟩
    rw [← hi]
    have h1 := low_succ a i
    -- a = high ^^^ low, at both places
    have hs := split_low (i + 1) a
    have hs' := split_low i a
    rw [h1] at hs
    have h2 : (2 ^ (i + 1) * (a / 2 ^ (i + 1))) ^^^ (if a / 2 ^ i % 2 = 1 then 2 ^ i else 0) = 2 ^ i * (a / 2 ^ i) := by
      have hx : (2 ^ i * (a / 2 ^ i)) ^^^ (a % 2 ^ i) = ((2 ^ (i + 1) * (a / 2 ^ (i + 1))) ^^^ (if a / 2 ^ i % 2 = 1 then 2 ^ i else 0)) ^^^ (a % 2 ^ i) := by
        rw [Nat.xor_assoc, Nat.xor_comm (if a / 2 ^ i % 2 = 1 then 2 ^ i else 0), ← hs, ← hs']
      have := congrArg (· ^^^ (a % 2 ^ i)) hx
      simp only [Nat.xor_assoc, Nat.xor_self, Nat.xor_zero] at this
      exact this.symm
    rw [Nat.mul_comm (a / 2 ^ (i + 1)), Nat.mul_comm (a / 2 ^ i)]
    exact h2

theorem tmul_one {a : Nat} (ha : a < 4294967296) : tmul a one 32 = a := by
  rw [tmul_one_aux a 32 (Nat.le_refl _) ha]
  simp

theorem tmul_swap_aux (a b t : Nat) : tmul a (tmul b one t) 32 = tmul b (tmul a one 32) t := by
  induction t with
  | zero => exact tmul_zero a 32
  | succ t ih =>
    rw [show tmul b one (t + 1) = tmul b one t ^^^ (if b / 2 ^ (31 - t) % 2 = 1 then shn t one else 0) from rfl, tmul_xor, ih]
    rw [show tmul b (tmul a one 32) (t + 1) = tmul b (tmul a one 32) t ^^^ (if b / 2 ^ (31 - t) % 2 = 1 then shn t (tmul a one 32) else 0) from rfl]
    congr 1
    split
    · exact tmul_shn a t one 32
    · exact tmul_zero a 32

theorem tmul_comm {a b : Nat} (ha : a < 4294967296) (hb : b < 4294967296) : tmul a b 32 = tmul b a 32 := by
  have := tmul_swap_aux a b 32
  rw [tmul_one hb, tmul_one ha] at this
  exact this

/-- Multiplying by a power is shifting. -/
theorem tmul_power (k : Nat) {b : Nat} (hb : b < 4294967296) : tmul (shn k one) b 32 = shn k b := by
  rw [tmul_comm (shn_lt k (by decide)) hb, tmul_shn, tmul_one hb]

/-- Combine. -/
def comb (a b : Nat) (n : Int) : Nat := shn (8 * n.toNat) a ^^^ b

theorem comb_step (k n a : Nat) : shn (k * n) a = shn ((k + k) * (n / 2)) (if n % 2 = 1 then shn k a else a) := by
  split
  · rename_i h
    rw [← shn_add]
    congr 1
    have : n = 2 * (n / 2) + 1 := by omega
    rw [show k * n = k * (2 * (n / 2) + 1) by rw [← this], Nat.mul_add, Nat.mul_one, ← Nat.mul_assoc, show k * 2 = k + k by omega, Nat.add_comm]
  · rename_i h
    congr 1
    have : n = 2 * (n / 2) := by omega
    rw [show k * n = k * (2 * (n / 2)) by rw [← this], ← Nat.mul_assoc, show k * 2 = k + k by omega]

/-- The sum of two texts out of their sums. -/
theorem run_shift (l : List UInt8) (x y : Nat) : run (x ^^^ y) l = run x l ^^^ shn (8 * l.length) y := by
  induction l generalizing x y with
  | nil => rfl
  | cons c l ih =>
    simp only [run_cons]
    rw [show x ^^^ y ^^^ c.toNat = (x ^^^ c.toNat) ^^^ y by rw [Nat.xor_assoc, Nat.xor_comm y, Nat.xor_assoc], shn_xor, ih, ← shn_add, List.length_cons, show 8 * (l.length + 1) = 8 + 8 * l.length by omega]

theorem comb_sums (s t : List UInt8) : comb (sum s) (sum t) (t.length : Int) = sum (s ++ t) := by
  unfold comb
  rw [Int.toNat_natCast]
  unfold sum
  rw [upd_append]
  obtain ⟨x, hx⟩ : ∃ x, x = upd 0 s := ⟨_, rfl⟩
  have hlt : x < 4294967296 := by rw [hx]; exact upd_lt 0 s
  rw [← hx]
  unfold upd
  have hi : inv x = inv 0 ^^^ x := by
    rw [inv_xor hlt, Nat.xor_comm]; rfl
  rw [hi, run_shift]
  have r0 := run_lt t (inv_lt 0)
  have rs := shn_lt (8 * t.length) hlt
  rw [inv_xor r0, inv_xor (Nat.xor_lt_two_pow (n := 32) r0 rs), Nat.xor_comm (shn _ x), Nat.xor_assoc, Nat.xor_assoc, Nat.xor_comm 4294967295]
end Go.Proofs.Ytgjenjgiepheoaa.Crc
