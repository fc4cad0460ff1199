/- The walks of the small functions of chapter 2. -/
import Derived.Test.YtgjenjgiepheoaaProg
import Derived.Test.YtgjenjgiepheoaaMath
import Derived.Below
import Derived.Deep.Draws
import Derived.OwnWalk
import Derived.WalkKit
import Derived.KernelRfl
import Derived.RowKit3
import Derived.Laws.BitsAllLaws
import Derived.Outline
import Derived.Lib.Hide
namespace Go.Proofs.Ytgjenjgiepheoaa
open Go.RowKit Crc

theorem ret_u32 {a b : Int} (h : a = b) : Ending.returned (.int .u32 a) = .returned (.int .u32 b) := by rw [h]

theorem sh_odd {x : Nat} (hx : x < 4294967296) (h : ((x : Int) % 2 == 1) = true) : bits .xor .u32 ((x : Int) / 2) 2197175160 = ((sh x : Nat) : Int) := by
  have h1 : x % 2 = 1 := by simp only [beq_iff_eq] at h; omega
  have h2 : ((x : Int) / 2) = ((x / 2 : Nat) : Int) := by omega
  rw [h2, show (2197175160 : Int) = ((2197175160 : Nat) : Int) from rfl, u32_xor_nat _ _ (by omega) (by decide)]
  unfold sh
  rw [if_pos h1]
  rfl
theorem sh_even {x : Nat} (h : ((x : Int) % 2 == 1) = false) : ((x : Int) / 2) = ((sh x : Nat) : Int) := by
  have h1 : ¬ x % 2 = 1 := by simp only [beq_eq_false_iff_ne] at h; omega
  unfold sh
  rw [if_neg h1]
  omega

set_option maxHeartbeats 400000 in
theorem refShift_any (x : Nat) (w : World) (hx : x < 4294967296) :
    Calls Try.prog 29 #[.int .u32 x] w fun e w' => e = .returned (.int .u32 (sh x : Nat)) ∧ w = w' := by
  go_enter Try.func29, Try.ntmps29
  go_wp2
  · go_ret
    exact ⟨ret_u32 (sh_odd hx (by assumption)), rfl⟩
  · go_ret
    exact ⟨ret_u32 (sh_even (by assumption)), rfl⟩

theorem and_one {y : Nat} (hy : y < 4294967296) : bits .and .u32 (y : Int) 1 = (y : Int) % 2 := by
  rw [show (1 : Int) = ((1 : Nat) : Int) from rfl, u32_and_nat _ _ hy (by decide), nat_mask1]
  omega

set_option maxHeartbeats 400000 in
theorem shift_any (x n : Nat) (w : World) (hx : x < 4294967296) (hn : n ≤ 64) :
    Calls Try.prog 30 #[.int .u32 x, .int .i64 n] w fun e w' => e = .returned (.int .u32 (shn n x : Nat)) ∧ w = w' := by
  go_enter Try.func30, Try.ntmps30
  go_wp2
  go_loop [0, 6] (fun y i => ∃ k : Nat, k ≤ n ∧ i = .int .i64 k ∧ y = .int .u32 (shn k x : Nat)) (fun _ i => n - (intOf i).toNat)
  case atStart => exact ⟨0, by omega, rfl, rfl⟩
  case round =>
    obtain ⟨k, hk, rfl, rfl⟩ := hrel
    have hb := shn_lt k hx
    have HS := Lib.hid (shn_succ k x)
    have HY : Hid (∃ y, y = shn k x) := ⟨_, rfl⟩
    obtain ⟨y, hy⟩ := HY
    rw [← hy] at hb HS ⊢
    have HY := Lib.hid hy
    clear hy
    go_wp2
    · have h : (bits BinOp.and IntKind.u32 (↑y) 1 == 1) = true := by assumption
      rw [and_one hb] at h
      refine ⟨⟨k + 1, by omega, by go_num, ?_⟩, by simp [intOf]; omega⟩
      rw [sh_odd hb h, HS.out]
    · have h : (bits BinOp.and IntKind.u32 (↑y) 1 == 1) = false := by assumption
      rw [and_one hb] at h
      refine ⟨⟨k + 1, by omega, by go_num, ?_⟩, by simp [intOf]; omega⟩
      rw [sh_even h, HS.out]
    · have : k = n := by omega
      go_ret
      exact ⟨ret_u32 (by rw [HY.out, this]), rfl⟩

theorem not_u32 {x : Nat} (hx : x < 4294967296) : bits .xor .u32 IntKind.u32.max (x : Int) = ((inv x : Nat) : Int) := by
  rw [show IntKind.u32.max = ((4294967295 : Nat) : Int) from by decide, u32_xor_nat _ _ (by decide) hx, inv_xor hx, Nat.xor_comm]

theorem take_snoc (s : ByteArray) (k : Nat) (h : k < s.size) : s.data.toList.take (k + 1) = s.data.toList.take k ++ [s[k]] := by
  rw [List.take_succ_eq_append_getElem (by simpa using h)]; rfl

theorem xor_byte {y : Nat} (c : UInt8) (hy : y < 4294967296) : bits .xor .u32 (y : Int) (c.toNat : Int) = ((y ^^^ c.toNat : Nat) : Int) :=
  u32_xor_nat _ _ hy (by have := c.toNat_lt; omega)

set_option maxHeartbeats 800000 in
theorem refUpdate_any (x : Nat) (s : ByteArray) (w : World) (hx : x < 4294967296) (hs : s.size ≤ maxLen) :
    Calls Try.prog 15 #[.int .u32 x, .string s] w fun e w' => e = .returned (.int .u32 (upd x s.data.toList : Nat)) ∧ w = w' := by
  unfold maxLen at hs
  have HN := Lib.hid (not_u32 hx)
  have hi := inv_lt x
  go_enter Try.func15, Try.ntmps15
  go_wp2
  rw [HN.out]
  go_loop [5, 6] (fun c i => ∃ k : Nat, k ≤ s.size ∧ i = .int .i64 k ∧ c = .int .u32 (Crc.run (inv x) (s.data.toList.take k) : Nat)) (fun _ i => s.size - (intOf i).toNat)
  case atStart => exact ⟨0, by omega, rfl, rfl⟩
  case round =>
    obtain ⟨k, hk, rfl, rfl⟩ := hrel
    have hb := run_lt (s.data.toList.take k) hi
    by_cases hlt : k < s.size
    · have HS := Lib.hid (run_snoc (inv x) (s.data.toList.take k) s[k])
      rw [← take_snoc s k hlt] at HS
      have HX := Lib.hid (xor_byte s[k] hb)
      have hb2 : Crc.run (inv x) (s.data.toList.take k) ^^^ (s[k]).toNat < 4294967296 := Nat.xor_lt_two_pow (n := 32) hb (by have := (s[k]).toNat_lt; omega)
      have HY : Hid (∃ y, y = Crc.run (inv x) (s.data.toList.take k)) := ⟨_, rfl⟩
      obtain ⟨y, hy⟩ := HY
      rw [← hy] at hb HS HX hb2 ⊢
      clear hy
      have hc := (s[k]).toNat_lt
      go_wp2
      rw [HX.out]
      have HY : Hid (∃ z, z = y ^^^ (s[k]).toNat) := ⟨_, rfl⟩
      obtain ⟨z, hz⟩ := HY
      rw [← hz] at HS HX hb2 ⊢
      clear hz
      go_loop [5, 7] (fun c i => ∃ j : Nat, j ≤ 8 ∧ i = .int .i64 j ∧ c = .int .u32 (shn j z : Nat)) (fun _ i => 8 - (intOf i).toNat)
      case atStart => exact ⟨0, by omega, rfl, rfl⟩
      case round =>
        obtain ⟨j, hj, rfl, rfl⟩ := hrel
        have hbj := shn_lt j hb2
        have HSJ := Lib.hid (shn_succ j z)
        by_cases hj8 : j < 8
        · go_wp2_with (go_at_call 29; refine (refShift_any _ _ hbj).mono ?_; rintro e w' ⟨rfl, rfl⟩)
          go_round
          case rel => exact ⟨j + 1, by omega, by go_num, by rw [HSJ.out]⟩
          case measure => simp [intOf]; omega
        · obtain rfl : j = 8 := by omega
          go_wp2
          go_round
          case rel => exact ⟨k + 1, by omega, by go_num, by rw [HS.out]⟩
          case measure => simp [intOf]; omega
    · go_wp2
      go_ret
      rw [not_u32 hb]
      exact ⟨ret_u32 (by rw [List.take_of_length_le (by simp; omega)]; rfl), rfl⟩
end Go.Proofs.Ytgjenjgiepheoaa
