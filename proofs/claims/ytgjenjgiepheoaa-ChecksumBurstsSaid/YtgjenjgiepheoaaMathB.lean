/- The plain mathematics of sealed texts: the residue, linearity, bursts. -/
import Derived.Test.YtgjenjgiepheoaaMath
namespace Go.Proofs.Ytgjenjgiepheoaa.Crc

def zipx (a b : List UInt8) : List UInt8 := List.zipWith (· ^^^ ·) a b

theorem run_zip (l m : List UInt8) (h : l.length = m.length) (x y : Nat) : run x l ^^^ run y m = run (x ^^^ y) (zipx l m) := by
  induction l generalizing m x y with
  | nil => cases m with
    | nil => rfl
    | cons _ _ => simp at h
  | cons c l ih => cases m with
    | nil => simp at h
    | cons d m =>
      have h' : l.length = m.length := by simpa using h
      simp only [run_cons, zipx, List.zipWith_cons_cons]
      rw [ih m h']
      rw [← shn_xor]
      have e : x ^^^ c.toNat ^^^ (y ^^^ d.toNat) = x ^^^ y ^^^ (c ^^^ d).toNat := by
        rw [UInt8.toNat_xor, Nat.xor_assoc, ← Nat.xor_assoc c.toNat, Nat.xor_comm c.toNat y, Nat.xor_assoc y, ← Nat.xor_assoc x]
      rw [e]
      rfl

theorem shn_zero (k : Nat) : shn k 0 = 0 := by
  induction k with
  | zero => rfl
  | succ k ih => exact ih

theorem run_zeros (k x : Nat) : run x (List.replicate k 0) = shn (8 * k) x := by
  induction k generalizing x with
  | zero => rfl
  | succ k ih =>
    rw [List.replicate_succ, run_cons, ih, show 8 * (k + 1) = 8 + 8 * k by omega, shn_add]
    simp

/-- The number with four bytes. -/
def num4 (a b c d : UInt8) : Nat := a.toNat + 256 * b.toNat + 65536 * c.toNat + 16777216 * d.toNat

theorem num4_lt (a b c d : UInt8) : num4 a b c d < 4294967296 := by
  have := a.toNat_lt; have := b.toNat_lt; have := c.toNat_lt; have := d.toNat_lt
  unfold num4; omega

theorem shn8_mul (x : Nat) : shn 8 (256 * x) = x := by
  rw [show (8 : Nat) = 4 + 4 from rfl, shn_add, show 256 * x = 16 * (16 * x) by omega, shn4_mul, shn4_mul]

/-- A byte's step takes the byte off the number. -/
theorem byte_off (x r : Nat) (c : UInt8) : shn 8 (x ^^^ (c.toNat + 256 * r)) = shn 8 (x ^^^ c.toNat) ^^^ r := by
  have h : c.toNat + 256 * r = c.toNat ^^^ 256 * r := by
    have hc := c.toNat_lt
    have := split_low 8 (c.toNat + 256 * r)
    rw [show (2 : Nat) ^ 8 = 256 from rfl, show (c.toNat + 256 * r) / 256 = r by omega, show (c.toNat + 256 * r) % 256 = c.toNat by omega] at this
    rw [this, Nat.xor_comm]
  rw [h, ← Nat.xor_assoc, shn_xor, shn8_mul]

theorem run4 (x : Nat) (a b c d : UInt8) : run x [a, b, c, d] = shn 32 (x ^^^ num4 a b c d) := by
  simp only [run_cons, run_nil]
  have e : num4 a b c d = a.toNat + 256 * (b.toNat + 256 * (c.toNat + 256 * d.toNat)) := by unfold num4; omega
  rw [show (32 : Nat) = 8 + (8 + (8 + 8)) from rfl, shn_add, shn_add, shn_add, e, byte_off, byte_off, byte_off]

def full : Nat := 4294967295
def residue : Nat := shn 32 full

theorem xor_full {x y : Nat} (hy : y < 4294967296) : x ^^^ y = full ↔ x = inv y := by
  rw [inv_xor hy]
  constructor
  · intro h
    have := congrArg (· ^^^ y) h
    simp only [Nat.xor_assoc, Nat.xor_self, Nat.xor_zero] at this
    rw [this, Nat.xor_comm]; rfl
  · rintro rfl
    rw [Nat.xor_assoc, Nat.xor_comm 4294967295, ← Nat.xor_assoc, Nat.xor_self, Nat.zero_xor]; rfl

/-- A text is sealed exactly if its register is the residue. -/
theorem sealed_iff (l : List UInt8) (a b c d : UInt8) : num4 a b c d = sum l ↔ run (inv 0) (l ++ [a, b, c, d]) = residue := by
  have hr := run_lt l (inv_lt 0)
  rw [run_append, run4]
  unfold residue
  constructor
  · intro h
    rw [Nat.xor_comm, (xor_full hr).2 (h.trans rfl)]
  · intro h
    have h1 := shn_inj 32 (Nat.xor_lt_two_pow (n := 32) hr (num4_lt a b c d)) (by decide) h
    rw [Nat.xor_comm] at h1
    exact (xor_full hr).1 h1

theorem zipx_length (a b : List UInt8) (h : a.length = b.length) : (zipx a b).length = a.length := by
  simp [zipx, h]

/-- The mask's text: zeros, four bytes, zeros. -/
def burst (i k : Nat) (a b c d : UInt8) : List UInt8 := List.replicate i 0 ++ ([a, b, c, d] ++ List.replicate k 0)

theorem run_burst (i k : Nat) (a b c d : UInt8) : run 0 (burst i k a b c d) = shn (8 * k) (shn 32 (num4 a b c d)) := by
  unfold burst
  rw [run_append, run_append, run_zeros, run_zeros, shn_zero, run4, Nat.zero_xor]

/-- A burst turns the register. -/
theorem burst_turns (t : List UInt8) (i k : Nat) (a b c d : UInt8) (h : t.length = i + 4 + k) (hn : num4 a b c d ≠ 0) : run (inv 0) (zipx t (burst i k a b c d)) ≠ run (inv 0) t := by
  intro e
  have hz := run_zip t (burst i k a b c d) (by simp [burst, h]; omega) (inv 0) 0
  rw [Nat.xor_zero, e] at hz
  have h0 : run 0 (burst i k a b c d) = 0 := by
    have := congrArg (run (inv 0) t ^^^ ·) hz
    simp only [← Nat.xor_assoc, Nat.xor_self, Nat.zero_xor] at this
    exact this
  rw [run_burst] at h0
  have h1 := shn_inj (8 * k) (shn_lt 32 (num4_lt a b c d)) (by decide) (h0.trans (shn_zero _).symm)
  have h2 := shn_inj 32 (num4_lt a b c d) (by decide) (h1.trans (shn_zero _).symm)
  exact hn h2

/-- The sum of the exclusive or of three texts. -/
theorem sum_three (a b c : List UInt8) (hb : a.length = b.length) (hc : a.length = c.length) : sum (zipx (zipx a b) c) = sum a ^^^ sum b ^^^ sum c := by
  have h1 := run_zip a b hb (inv 0) (inv 0)
  have h2 := run_zip (zipx a b) c (by rw [zipx_length a b hb, hc]) 0 (inv 0)
  rw [Nat.xor_self] at h1
  rw [Nat.zero_xor, ← h1] at h2
  have ra := run_lt a (inv_lt 0)
  have rb := run_lt b (inv_lt 0)
  have rc := run_lt c (inv_lt 0)
  unfold sum upd
  rw [← h2, inv_xor ra, inv_xor rb, inv_xor rc, inv_xor (Nat.xor_lt_two_pow (n := 32) (Nat.xor_lt_two_pow (n := 32) ra rb) rc)]
  apply Nat.eq_of_testBit_eq
  intro i
  simp only [Nat.testBit_xor]
  cases Nat.testBit (run (inv 0) a) i <;> cases Nat.testBit (run (inv 0) b) i <;> cases Nat.testBit (run (inv 0) c) i <;> cases Nat.testBit 4294967295 i <;> rfl
end Go.Proofs.Ytgjenjgiepheoaa.Crc
