/- The walks of Bytes, Number, Seal, Open, Xor. -/
import Derived.Test.YtgjenjgiepheoaaWalksC
import Derived.Lib.ConvBytes
import Derived.Laws.BytesArg
import Derived.WalkSmall
import Derived.Deep.RegionWith
import Derived.Deep.RegionHeld3
namespace Go.Proofs.Ytgjenjgiepheoaa
open Go.RowKit Crc

def bytesOf (n : Nat) : ByteArray := ⟨#[UInt8.ofNat n, UInt8.ofNat (n / 256), UInt8.ofNat (n / 65536), UInt8.ofNat (n / 16777216)]⟩

theorem conv4 (w : World) (a b c d : Int) :
    (convert 45 9 (.slice (some ⟨w.heap.size, 0, none⟩) 4 4)).run Try.prog (w.alloc (.cells #[.int .u8 a, .int .u8 b, .int .u8 c, .int .u8 d] 5)) =
      .ok (.string ⟨#[UInt8.ofNat a.toNat, UInt8.ofNat b.toNat, UInt8.ofNat c.toNat, UInt8.ofNat d.toNat]⟩) (w.alloc (.cells #[.int .u8 a, .int .u8 b, .int .u8 c, .int .u8 d] 5)) := by
  refine run_convert_bytes_arg _ 45 5 Try.underlying45 Try.underlying5 _ 0 4 4 [a, b, c, d] rfl (fun i hi => ?_) 9 Try.underlying9
  rw [cell_of_row _ _ _ _ _ _ (heap_alloc_new w _)]
  match i, hi with
  | 0, _ => rfl
  | 1, _ => rfl
  | 2, _ => rfl
  | 3, _ => rfl

theorem ofNat_mod (n : Nat) : UInt8.ofNat (n % 256) = UInt8.ofNat n := by
  apply UInt8.toNat_inj.1
  simp

theorem ret_string {a b : ByteArray} (h : a = b) : Ending.returned (.string a) = .returned (.string b) := by rw [h]

theorem bytes_eq (n : Nat) : (⟨#[UInt8.ofNat (n % 256), UInt8.ofNat (n / 256 % 256), UInt8.ofNat (n / 65536 % 256), UInt8.ofNat (n / 16777216)]⟩ : ByteArray) = bytesOf n := by
  unfold bytesOf
  rw [ofNat_mod, ofNat_mod, ofNat_mod]

set_option maxHeartbeats 800000 in
theorem bytes_any (n : Nat) (w : World) (hn : n < 4294967296) :
    Calls Try.prog 17 #[.int .u32 n] w fun e w' => e = .returned (.string (bytesOf n)) ∧ Below w.heap.size w w' := by
  have hcv := conv4 w
  go_enter Try.func17, Try.ntmps17
  go_wp2
  go_ret
  exact ⟨ret_string (bytes_eq n), (Below.refl _ _).alloc (Nat.le_refl _) _⟩

set_option maxHeartbeats 800000 in
theorem refBytes_any (n : Nat) (w : World) (hn : n < 4294967296) :
    Calls Try.prog 18 #[.int .u32 n] w fun e w' => e = .returned (.string (bytesOf n)) ∧ Below w.heap.size w w' := by
  have hcv := conv4 w
  go_enter Try.func18, Try.ntmps18
  go_wp2
  go_ret
  exact ⟨ret_string (bytes_eq n), (Below.refl _ _).alloc (Nat.le_refl _) _⟩

/-- The number with some bytes. -/
def numOf (s : ByteArray) : Nat := if h : s.size = 4 then s[0].toNat + 256 * s[1].toNat + 65536 * s[2].toNat + 16777216 * s[3].toNat else 0

theorem numOf_lt (s : ByteArray) : numOf s < 4294967296 := by
  unfold numOf
  split
  · have h0 := (s[0]).toNat_lt
    have h1 := (s[1]).toNat_lt
    have h2 := (s[2]).toNat_lt
    have h3 := (s[3]).toNat_lt
    omega
  · omega

theorem or4 (a b c d : Nat) (ha : a < 256) (hb : b < 256) (hc : c < 256) (hd : d < 256) :
    bits .or .u32 (bits .or .u32 (bits .or .u32 ((a : Int) % 4294967296) ((b : Int) % 4294967296 * 256 % 4294967296)) ((c : Int) % 4294967296 * 65536 % 4294967296)) ((d : Int) % 4294967296 * 16777216 % 4294967296)
      = ((a + 256 * b + 65536 * c + 16777216 * d : Nat) : Int) := by
  rw [show (a : Int) % 4294967296 = (a : Nat) by omega, show (b : Int) % 4294967296 * 256 % 4294967296 = ((256 * b : Nat) : Int) by omega,
    show (c : Int) % 4294967296 * 65536 % 4294967296 = ((65536 * c : Nat) : Int) by omega, show (d : Int) % 4294967296 * 16777216 % 4294967296 = ((16777216 * d : Nat) : Int) by omega]
  rw [u32_or_nat _ _ (by omega) (by omega), Nat.or_comm, nat_join 8 (256 * b) a (by omega) (by omega)]
  rw [u32_or_nat _ _ (by omega) (by omega), Nat.or_comm, nat_join 16 (65536 * c) _ (by omega) (by omega)]
  rw [u32_or_nat _ _ (by omega) (by omega), Nat.or_comm, nat_join 24 (16777216 * d) _ (by omega) (by omega)]
  congr 1
  omega

theorem num_eq (s : ByteArray) (h : s.size = 4) (h0 : 0 < s.size) (h1 : 1 < s.size) (h2 : 2 < s.size) (h3 : 3 < s.size) :
    bits .or .u32 (bits .or .u32 (bits .or .u32 ((s[0].toNat : Int) % 4294967296) ((s[1].toNat : Int) % 4294967296 * 256 % 4294967296)) ((s[2].toNat : Int) % 4294967296 * 65536 % 4294967296)) ((s[3].toNat : Int) % 4294967296 * 16777216 % 4294967296)
      = ((numOf s : Nat) : Int) := by
  rw [or4 _ _ _ _ (s[0]).toNat_lt (s[1]).toNat_lt (s[2]).toNat_lt (s[3]).toNat_lt]
  unfold numOf
  rw [dif_pos h]

theorem num_eq2 (s : ByteArray) (h : s.size = 4) (h0 : 0 < s.size) (h1 : 1 < s.size) (h2 : 2 < s.size) (h3 : 3 < s.size) :
    (((s[0].toNat : Int) + (s[1].toNat : Int) % 4294967296 * 256 + (s[2].toNat : Int) % 4294967296 * 65536) % 4294967296 + (s[3].toNat : Int) % 4294967296 * 16777216 % 4294967296) % 4294967296
      = ((numOf s : Nat) : Int) := by
  have a0 := (s[0]).toNat_lt
  have a1 := (s[1]).toNat_lt
  have a2 := (s[2]).toNat_lt
  have a3 := (s[3]).toNat_lt
  unfold numOf
  rw [dif_pos h]
  omega

set_option maxHeartbeats 800000 in
theorem number_any (s : ByteArray) (w : World) :
    Calls Try.prog 19 #[.string s] w fun e w' => e = .returned (.int .u32 (numOf s)) ∧ Below w.heap.size w w' := by
  by_cases h4 : s.size = 4
  · have q0 : (0 < s.size) = True := eq_true (by omega)
    have q1 : (1 < s.size) = True := eq_true (by omega)
    have q2 : (2 < s.size) = True := eq_true (by omega)
    have q3 : (3 < s.size) = True := eq_true (by omega)
    go_enter Try.func19, Try.ntmps19
    go_wp2
    go_quiet (fail)
    go_wp2
    go_ret
    exact ⟨ret_u32 (num_eq s h4 (by omega) (by omega) (by omega) (by omega)), below_drewN (Below.refl _ _) _⟩
  · have hn : numOf s = 0 := by unfold numOf; rw [dif_neg h4]
    go_enter Try.func19, Try.ntmps19
    go_wp2
    go_ret
    exact ⟨ret_u32 (by rw [hn]; rfl), Below.refl _ _⟩

set_option maxHeartbeats 800000 in
theorem refNumber_any (s : ByteArray) (w : World) :
    Calls Try.prog 20 #[.string s] w fun e w' => e = .returned (.int .u32 (numOf s)) ∧ Below w.heap.size w w' := by
  by_cases h4 : s.size = 4
  · have q0 : (0 < s.size) = True := eq_true (by omega)
    have q1 : (1 < s.size) = True := eq_true (by omega)
    have q2 : (2 < s.size) = True := eq_true (by omega)
    have q3 : (3 < s.size) = True := eq_true (by omega)
    go_enter Try.func20, Try.ntmps20
    go_wp2
    go_quiet (fail)
    go_wp2
    go_ret
    exact ⟨ret_u32 (num_eq2 s h4 (by omega) (by omega) (by omega) (by omega)), below_drewN (Below.refl _ _) _⟩
  · have hn : numOf s = 0 := by unfold numOf; rw [dif_neg h4]
    go_enter Try.func20, Try.ntmps20
    go_wp2
    go_ret
    exact ⟨ret_u32 (by rw [hn]; rfl), Below.refl _ _⟩

def sealOf (s : ByteArray) : ByteArray := s ++ bytesOf (Crc.sum s.data.toList)

theorem bytesOf_size (n : Nat) : (bytesOf n).size = 4 := rfl

set_option maxHeartbeats 800000 in
theorem seal_any (s : ByteArray) (w : World) (hs : s.size ≤ 1000) :
    Calls Try.prog 23 #[.string s] w fun e w' => e = .returned (.string (sealOf s)) ∧ Below w.heap.size w w' := by
  have hb := bytesOf_size (Crc.sum s.data.toList)
  go_enter Try.func23, Try.ntmps23
  go_wp2_with (first | (go_at_call 12; refine (sum_any _ _ (by unfold maxLen; omega)).mono ?_; rintro e w1 ⟨rfl, hb1⟩) | (go_at_call 17; refine (bytes_any _ _ (sum_lt _)).mono ?_; rintro e w2 ⟨rfl, hb2⟩))
  go_ret
  exact ⟨rfl, hb1.trans (hb2.mono hb1.size)⟩

set_option maxHeartbeats 800000 in
theorem refSeal_any (s : ByteArray) (w : World) (hs : s.size ≤ 1000) :
    Calls Try.prog 24 #[.string s] w fun e w' => e = .returned (.string (sealOf s)) ∧ Below w.heap.size w w' := by
  have hb := bytesOf_size (Crc.sum s.data.toList)
  go_enter Try.func24, Try.ntmps24
  go_wp2_with (first | (go_at_call 13; refine (refSum_any _ _ (by unfold maxLen; omega)).mono ?_; rintro e w1 ⟨rfl, rfl⟩) | (go_at_call 18; refine (refBytes_any _ _ (sum_lt _)).mono ?_; rintro e w2 ⟨rfl, hb2⟩))
  go_ret
  exact ⟨rfl, hb2⟩

set_option maxHeartbeats 800000 in
theorem open_short (s : ByteArray) (w : World) (hs : s.size < 4) :
    Calls Try.prog 21 #[.string s] w fun e w' => e = .returned (.tuple #[.string ByteArray.empty, .int .i64 11]) ∧ Below w.heap.size w w' := by
  have hd : decide ((s.size : Int) - 4 < 0) = true := by simp; omega
  go_enter Try.func21, Try.ntmps21
  go_wp2
  go_quiet (fail)
  go_wp2
  go_ret2
  exact ⟨rfl, below_drewN (Below.refl _ _) _⟩

set_option maxHeartbeats 800000 in
theorem refOpen_short (s : ByteArray) (w : World) (hs : s.size < 4) :
    Calls Try.prog 22 #[.string s] w fun e w' => e = .returned (.tuple #[.string ByteArray.empty, .int .i64 11]) ∧ Below w.heap.size w w' := by
  go_enter Try.func22, Try.ntmps22
  go_wp2
  go_ret2
  exact ⟨rfl, Below.refl _ _⟩

theorem slice_from (s : ByteArray) (n : Nat) (h : n ≤ s.size) (w : World) : (Instr.slice 9 (.string s) (some (.int .i64 (n : Int))) none none).run Try.prog w = .ok (.string (s.extract n s.size)) w := by
  rw [run_slice_string_from_if w 9 s .i64 n Try.underlying9, if_pos (by omega)]
  rfl
theorem slice_to (s : ByteArray) (n : Nat) (h : n ≤ s.size) (w : World) : (Instr.slice 9 (.string s) none (some (.int .i64 (n : Int))) none).run Try.prog w = .ok (.string (s.extract 0 n)) w := by
  rw [run_slice_string_to_if w 9 s .i64 n Try.underlying9, if_pos (by omega)]
  rfl

theorem bytes_ext {a b : ByteArray} (h : a.toList = b.toList) : a = b := by
  rw [ByteArray.toList_eq, ByteArray.toList_eq] at h
  exact ByteArray.ext (Array.toList_inj.1 h)
theorem ne_bytes {a b : ByteArray} (h : ¬ a = b) : (!a.toList == b.toList) = true := by
  simp only [Bool.not_eq_true', beq_eq_false_iff_ne, ne_eq]
  exact fun e => h (bytes_ext e)

/-- A sealed text: the last four bytes are the sum of those ahead of them. -/
def isSealed (s : ByteArray) (n : Nat) : Prop := numOf (s.extract n (n + 4)) = Crc.sum (s.data.toList.take n)

set_option maxHeartbeats 1600000 in
theorem open_good (s : ByteArray) (n : Nat) (w : World) (hn : s.size = n + 4) (hs : n ≤ 1000) (hg : isSealed s n) :
    Calls Try.prog 21 #[.string s] w fun e w' => e = .returned (.tuple #[.string (s.extract 0 n), .int .i64 0]) ∧ Below w.heap.size w w' := by
  have hm : (s.extract 0 n).size ≤ maxLen := by rw [ByteArray.size_extract]; unfold maxLen; omega
  have HM := Lib.hid hm
  clear hm
  have h1 := slice_from s n (by omega)
  have h2 := slice_to s n (by omega)
  have hc : (((numOf (s.extract n (n + 4)) : Nat) : Int) != ((Crc.sum (s.data.toList.take n) : Nat) : Int)) = false := by
    unfold isSealed at hg; rw [hg]; simp
  clear hg
  go_enter Try.func21, Try.ntmps21
  go_wp2
  go_region_held3 (fun _ => True) (trivial) (first | (go_at_call 19; refine (number_any _ _).mono ?_; rintro e w1 ⟨rfl, hb1⟩) | (go_at_call 12; refine (sum_any _ _ HM.out).mono ?_; rintro e w2 ⟨rfl, hb2⟩))
  all_goals
    go_wp2
    go_ret2
    first
    | exact ⟨rfl, (((Below.refl _ _).drew).trans (hb1.mono (Nat.le_refl _))).trans (hb2.mono hb1.size)⟩
    | exact ⟨rfl, (((Below.refl _ _).drew).trans (hb2.mono (Nat.le_refl _))).trans (hb1.mono hb2.size)⟩

set_option maxHeartbeats 1600000 in
theorem open_bad (s : ByteArray) (n : Nat) (w : World) (hn : s.size = n + 4) (hs : n ≤ 1000) (hg : ¬ isSealed s n) :
    Calls Try.prog 21 #[.string s] w fun e w' => e = .returned (.tuple #[.string ByteArray.empty, .int .i64 11]) ∧ Below w.heap.size w w' := by
  have hm : (s.extract 0 n).size ≤ maxLen := by rw [ByteArray.size_extract]; unfold maxLen; omega
  have HM := Lib.hid hm
  clear hm
  have h1 := slice_from s n (by omega)
  have h2 := slice_to s n (by omega)
  have hc : (((numOf (s.extract n (n + 4)) : Nat) : Int) != ((Crc.sum (s.data.toList.take n) : Nat) : Int)) = true := by
    unfold isSealed at hg; simp only [bne_iff_ne, ne_eq]; omega
  clear hg
  go_enter Try.func21, Try.ntmps21
  go_wp2
  go_region_held3 (fun _ => True) (trivial) (first | (go_at_call 19; refine (number_any _ _).mono ?_; rintro e w1 ⟨rfl, hb1⟩) | (go_at_call 12; refine (sum_any _ _ HM.out).mono ?_; rintro e w2 ⟨rfl, hb2⟩))
  all_goals
    go_wp2
    go_ret2
    first
    | exact ⟨rfl, (((Below.refl _ _).drew).trans (hb1.mono (Nat.le_refl _))).trans (hb2.mono hb1.size)⟩
    | exact ⟨rfl, (((Below.refl _ _).drew).trans (hb2.mono (Nat.le_refl _))).trans (hb1.mono hb2.size)⟩

set_option maxHeartbeats 1600000 in
theorem refOpen_good (s : ByteArray) (n : Nat) (w : World) (hn : s.size = n + 4) (hs : n ≤ 900) (hg : sealOf (s.extract 0 n) = s) :
    Calls Try.prog 22 #[.string s] w fun e w' => e = .returned (.tuple #[.string (s.extract 0 n), .int .i64 0]) ∧ Below w.heap.size w w' := by
  have hm : (s.extract 0 n).size ≤ 1000 := by rw [ByteArray.size_extract]; omega
  have HG := Lib.hid hg
  have HM := Lib.hid hm
  clear hm hg
  have h2 := slice_to s n (by omega)
  go_enter Try.func22, Try.ntmps22
  go_wp2_with fail
  refine (refSeal_any _ _ HM.out).mono ?_
  rintro e w1 ⟨rfl, hb1⟩
  rw [HG.out]
  go_wp2
  go_ret2
  exact ⟨rfl, hb1⟩

set_option maxHeartbeats 1600000 in
theorem refOpen_bad (s : ByteArray) (n : Nat) (w : World) (hn : s.size = n + 4) (hs : n ≤ 900) (hg : ¬ sealOf (s.extract 0 n) = s) :
    Calls Try.prog 22 #[.string s] w fun e w' => e = .returned (.tuple #[.string ByteArray.empty, .int .i64 11]) ∧ Below w.heap.size w w' := by
  have hm : (s.extract 0 n).size ≤ 1000 := by rw [ByteArray.size_extract]; omega
  have HG := Lib.hid hg
  have HM := Lib.hid hm
  clear hm hg
  have h2 := slice_to s n (by omega)
  go_enter Try.func22, Try.ntmps22
  go_wp2_with fail
  refine (refSeal_any _ _ HM.out).mono ?_
  rintro e w1 ⟨rfl, hb1⟩
  have hc := ne_bytes HG.out
  go_wp2
  go_ret2
  exact ⟨rfl, hb1⟩
end Go.Proofs.Ytgjenjgiepheoaa
