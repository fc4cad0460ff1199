/- The walks of the laws Parts and Combines. -/
import Derived.Test.YtgjenjgiepheoaaWalksF
import Derived.Test.YtgjenjgiepheoaaLawA
namespace Go.Proofs.Ytgjenjgiepheoaa
open Go.RowKit Crc

set_option maxHeartbeats 800000 in
theorem combines_walk (a b : Nat) (n : Int) (w : World) (ha : a < 4294967296) (hb : b < 4294967296) (hn : n < 9223372036854775808) :
    Calls Try.prog 10 #[.int .u32 a, .int .u32 b, .int .i64 n] w fun e w' => e = .returned (.bool true) ∧ Below w.heap.size w w' := by
  go_enter Try.func10, Try.ntmps10
  go_wp2_with fail
  refine (awake_any _).mono ?_
  rintro e w1 ⟨rfl, hb1⟩
  go_wp2_with fail
  refine (combine_any a b n _ ha hb hn).mono ?_
  rintro e w2 ⟨rfl, hb2⟩
  go_wp2_with fail
  refine (refCombine_any a b n _ ha hb hn).mono ?_
  rintro e w3 ⟨rfl, rfl⟩
  go_wp2
  go_ret
  exact ⟨rfl, bstep hb1 hb2⟩

theorem cat_list (s t : ByteArray) : (s ++ t).data.toList = s.data.toList ++ t.data.toList := by simp

set_option maxHeartbeats 800000 in
theorem parts_walk (s t : ByteArray) (w : World) :
    Calls Try.prog 9 #[.string s, .string t] w fun e w' => e = .returned (.bool true) ∧ Below w.heap.size w w' := by
  by_cases hl : s.size ≤ 500 ∧ t.size ≤ 500
  · obtain ⟨hs, ht⟩ := hl
    have hst : (s ++ t).size = s.size + t.size := ByteArray.size_append
    have hsx : (s ++ t).size ≤ maxLen := by rw [hst]; unfold maxLen; omega
    have HSX := Lib.hid hsx
    have hu : Crc.sum (s ++ t).data.toList = upd (Crc.sum s.data.toList) t.data.toList := by rw [cat_list]; exact upd_append 0 _ _
    have hc : comb (Crc.sum s.data.toList) (Crc.sum t.data.toList) (t.size : Int) = Crc.sum (s ++ t).data.toList := by
      have := comb_sums s.data.toList t.data.toList
      rw [cat_list, ← this]
      simp
    have HU := Lib.hid hu
    have HC := Lib.hid hc
    clear hsx hu hc hst
    have hmx : s.size ≤ maxLen := by unfold maxLen; omega
    have hmt : t.size ≤ maxLen := by unfold maxLen; omega
    have HMX := Lib.hid hmx
    have HMT := Lib.hid hmt
    clear hmx hmt
    go_enter Try.func9, Try.ntmps9
    go_wp2_with fail
    refine (awake_any _).mono ?_
    rintro e w1 ⟨rfl, hb1⟩
    go_wp2_with fail
    refine (sum_any _ _ HSX.out).mono ?_
    rintro e w2 ⟨rfl, hb2⟩
    have HQ : Hid (∃ q, q = Crc.sum (s ++ t).data.toList) := ⟨_, rfl⟩
    obtain ⟨q, hq⟩ := HQ
    rw [← hq] at HU HC ⊢
    clear hq
    go_wp2_with fail
    refine (sum_any _ _ HMX.out).mono ?_
    rintro e w3 ⟨rfl, hb3⟩
    go_wp2_with fail
    refine (update_any _ _ _ (sum_lt _) HMT.out).mono ?_
    rintro e w4 ⟨rfl, hb4⟩
    rw [← HU.out]
    go_wp2_with fail
    refine (sum_any _ _ HMX.out).mono ?_
    rintro e w5 ⟨rfl, hb5⟩
    go_wp2_with fail
    refine (sum_any _ _ HMT.out).mono ?_
    rintro e w6 ⟨rfl, hb6⟩
    go_wp2_with fail
    refine (combine_any _ _ _ _ (sum_lt _) (sum_lt _) (by omega)).mono ?_
    rintro e w7 ⟨rfl, hb7⟩
    rw [HC.out]
    go_wp2
    go_ret
    exact ⟨rfl, bstep (bstep (bstep (bstep (bstep (bstep hb1 hb2) hb3) hb4) hb5) hb6) hb7⟩
  · have hcase : (500 < s.size) ∨ (s.size ≤ 500 ∧ 500 < t.size) := by omega
    clear hl
    rcases hcase with h | ⟨h, h'⟩
    all_goals
      go_enter Try.func9, Try.ntmps9
      go_wp2_with fail
      refine (awake_any _).mono ?_
      rintro e w1 ⟨rfl, hb1⟩
      go_wp2_with fail
      refine (awake_any _).mono ?_
      rintro e w2 ⟨rfl, hb2⟩
      go_wp2
      go_ret
      exact ⟨rfl, bstep hb1 hb2⟩

theorem bound_i64 {n : Int} (h : (Lit.int .i64 n).wf = true) : n < 9223372036854775808 := by
  simp [Lit.wf, IntKind.min, IntKind.max, IntKind.signed, IntKind.bits] at h
  omega

theorem combines_row (a0 a1 a2 : Int) (w : World) (w0 : (Lit.int .u32 a0).wf = true) (w1 : (Lit.int .u32 a1).wf = true) (w2 : (Lit.int .i64 a2).wf = true) :
    Calls Try.prog 10 #[.int .u32 a0, .int .u32 a1, .int .i64 a2] w fun e w' => e = .returned (.bool true) ∧ Below w.heap.size w w' := by
  obtain ⟨a, rfl, ha⟩ := nat_u32 w0
  obtain ⟨b, rfl, hb⟩ := nat_u32 w1
  exact combines_walk a b a2 w ha hb (bound_i64 w2)
theorem parts_row (a0 a1 : ByteArray) (w : World) (_w0 : a0.size ≤ maxLen) (_w1 : a1.size ≤ maxLen) :
    Calls Try.prog 9 #[.string a0, .string a1] w fun e w' => e = .returned (.bool true) ∧ Below w.heap.size w w' := parts_walk a0 a1 w
end Go.Proofs.Ytgjenjgiepheoaa
