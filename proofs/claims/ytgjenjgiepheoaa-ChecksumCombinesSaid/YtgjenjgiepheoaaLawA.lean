/- The walks of awake and of the first laws of chapter 2. -/
import Derived.Test.YtgjenjgiepheoaaWalksD
import Derived.OpenShut
namespace Go.Proofs.Ytgjenjgiepheoaa
open Go.RowKit Crc

theorem sum_digits : Crc.sum (ByteArray.mk #[49, 50, 51, 52, 53, 54, 55, 56, 57]).data.toList = 3808858755 := by decide +kernel
theorem seal_empty : sealOf { data := #[] } = { data := #[0, 0, 0, 0] } := by decide +kernel

set_option maxHeartbeats 800000 in
theorem awake_any (w : World) : Calls Try.prog 11 #[] w fun e w' => e = .returned (.bool true) ∧ Below w.heap.size w w' := by
  go_enter Try.func11, Try.ntmps11
  go_wp2_with fail
  refine (sum_any _ _ (by unfold maxLen; decide)).mono ?_
  rintro e w1 ⟨rfl, hb1⟩
  rw [sum_digits]
  go_wp2_with fail
  refine (seal_any _ _ (by decide)).mono ?_
  rintro e w2 ⟨rfl, hb2⟩
  rw [seal_empty]
  go_wp2
  go_ret
  exact ⟨rfl, hb1.trans (hb2.mono hb1.size)⟩

theorem bstep {W w w' : World} (h : Below W.heap.size W w) (h' : Below w.heap.size w w') : Below W.heap.size W w' := h.trans (h'.mono h.size)

set_option maxHeartbeats 800000 in
theorem sums_walk (x : Nat) (s : ByteArray) (w : World) (hx : x < 4294967296) :
    Calls Try.prog 3 #[.int .u32 x, .string s] w fun e w' => e = .returned (.bool true) ∧ Below w.heap.size w w' := by
  by_cases hl : s.size ≤ 500
  · go_enter Try.func3, Try.ntmps3
    go_wp2_with (first | (go_at_call 11; refine (awake_any _).mono ?_; rintro e w1 ⟨rfl, hb1⟩) | (go_at_call 12; refine (sum_any _ _ (by unfold maxLen; omega)).mono ?_; rintro e w2 ⟨rfl, hb2⟩) | (go_at_call 13; refine (refSum_any _ _ (by unfold maxLen; omega)).mono ?_; rintro e w2 ⟨rfl, rfl⟩) | (go_at_call 14; refine (update_any _ _ _ hx (by unfold maxLen; omega)).mono ?_; rintro e w3 ⟨rfl, hb3⟩) | (go_at_call 15; refine (refUpdate_any _ _ _ hx (by unfold maxLen; omega)).mono ?_; rintro e w2 ⟨rfl, rfl⟩))
    go_ret
    exact ⟨rfl, bstep (bstep hb1 hb2) hb3⟩
  · go_enter Try.func3, Try.ntmps3
    go_wp2_with fail
    refine (awake_any _).mono ?_
    rintro e w1 ⟨rfl, hb1⟩
    go_wp2_with fail
    refine (awake_any _).mono ?_
    rintro e w2 ⟨rfl, hb2⟩
    go_wp2
    go_ret
    exact ⟨rfl, bstep hb1 hb2⟩

theorem nat_u32 {a : Int} (h : (Lit.int .u32 a).wf = true) : ∃ n : Nat, a = n ∧ n < 4294967296 := by
  have := bounds_u32 h
  exact ⟨a.toNat, by omega, by omega⟩

theorem sums_row (a0 : Int) (a1 : ByteArray) (w : World) (w0 : (Lit.int .u32 a0).wf = true) (_w1 : a1.size ≤ maxLen) :
    Calls Try.prog 3 #[.int .u32 a0, .string a1] w fun e w' => e = .returned (.bool true) ∧ Below w.heap.size w w' := by
  obtain ⟨n, rfl, hn⟩ := nat_u32 w0
  exact sums_walk n a1 w hn
end Go.Proofs.Ytgjenjgiepheoaa
