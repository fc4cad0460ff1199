/- The walks of the laws Numbers, Seals, Opens. -/
import Derived.Test.YtgjenjgiepheoaaLawB
namespace Go.Proofs.Ytgjenjgiepheoaa
open Go.RowKit Crc

set_option maxHeartbeats 800000 in
theorem numbers_walk (x : Nat) (s : ByteArray) (w : World) (hx : x < 4294967296) :
    Calls Try.prog 5 #[.int .u32 x, .string s] w fun e w' => e = .returned (.bool true) ∧ Below w.heap.size w w' := by
  by_cases hl : s.size ≤ 20
  · have HN := Lib.hid (numOf_bytes x hx)
    go_enter Try.func5, Try.ntmps5
    go_wp2_with fail
    refine (awake_any _).mono ?_
    rintro e w1 ⟨rfl, hb1⟩
    go_wp2_with fail
    refine (bytes_any _ _ hx).mono ?_
    rintro e w2 ⟨rfl, hb2⟩
    go_wp2_with fail
    refine (refBytes_any _ _ hx).mono ?_
    rintro e w3 ⟨rfl, hb3⟩
    go_wp2_with fail
    refine (number_any _ _).mono ?_
    rintro e w4 ⟨rfl, hb4⟩
    go_wp2_with fail
    refine (refNumber_any _ _).mono ?_
    rintro e w5 ⟨rfl, hb5⟩
    go_wp2_with fail
    refine (bytes_any _ _ hx).mono ?_
    rintro e w6 ⟨rfl, hb6⟩
    go_wp2_with fail
    refine (number_any _ _).mono ?_
    rintro e w7 ⟨rfl, hb7⟩
    rw [HN.out]
    go_wp2
    go_ret
    exact ⟨rfl, bstep (bstep (bstep (bstep (bstep (bstep hb1 hb2) hb3) hb4) hb5) hb6) hb7⟩
  · go_enter Try.func5, Try.ntmps5
    go_wp2_with fail
    refine (awake_any _).mono ?_
    rintro e w1 ⟨rfl, hb1⟩
    go_wp2_with fail
    refine (awake_any _).mono ?_
    rintro e w2 ⟨rfl, hb2⟩
    go_wp2
    go_ret
    exact ⟨rfl, bstep hb1 hb2⟩

set_option maxHeartbeats 800000 in
theorem seals_walk (s : ByteArray) (w : World) :
    Calls Try.prog 6 #[.string s] w fun e w' => e = .returned (.bool true) ∧ Below w.heap.size w w' := by
  by_cases hl : s.size ≤ 500
  · have ho : s.size ≤ 900 := by omega
    have hp : s.size ≤ 1000 := by omega
    go_enter Try.func6, Try.ntmps6
    go_wp2_with fail
    refine (awake_any _).mono ?_
    rintro e w1 ⟨rfl, hb1⟩
    go_wp2_with fail
    refine (open_any _ _ ho).mono ?_
    rintro e w2 ⟨rfl, hb2⟩
    go_wp2_with fail
    refine (refOpen_any _ _ ho).mono ?_
    rintro e w3 ⟨rfl, hb3⟩
    go_wp2_with fail
    refine (seal_any _ _ hp).mono ?_
    rintro e w4 ⟨rfl, hb4⟩
    go_wp2_with fail
    refine (refSeal_any _ _ hp).mono ?_
    rintro e w5 ⟨rfl, hb5⟩
    go_wp2
    go_ret
    exact ⟨rfl, bstep (bstep (bstep (bstep hb1 hb2) hb3) hb4) hb5⟩
  · go_enter Try.func6, Try.ntmps6
    go_wp2_with fail
    refine (awake_any _).mono ?_
    rintro e w1 ⟨rfl, hb1⟩
    go_wp2_with fail
    refine (awake_any _).mono ?_
    rintro e w2 ⟨rfl, hb2⟩
    go_wp2
    go_ret
    exact ⟨rfl, bstep hb1 hb2⟩

set_option maxHeartbeats 1600000 in
theorem opens_walk (s : ByteArray) (w : World) :
    Calls Try.prog 7 #[.string s] w fun e w' => e = .returned (.bool true) ∧ Below w.heap.size w w' := by
  by_cases hl : s.size ≤ 500
  · have hp : s.size ≤ 1000 := by omega
    have ho : s.size ≤ 900 := by omega
    have hz := seal_size s
    have hz2 : (sealOf s).size ≤ 900 := by omega
    have HO := Lib.hid (open_seal s)
    have hsl := fun w => slice_to (sealOf s) s.size (by omega) w
    have HSF := Lib.hid (seal_front s)
    rcases open_cases s with hc | ⟨hc1, hc2, hc3⟩
    · have HC := Lib.hid hc
      clear hc
      go_enter Try.func7, Try.ntmps7
      go_wp2_with fail
      refine (awake_any _).mono ?_
      rintro e w1 ⟨rfl, hb1⟩
      go_wp2_with fail
      refine (seal_any _ _ hp).mono ?_
      rintro e w2 ⟨rfl, hb2⟩
      go_wp2_with fail
      refine (open_any _ _ hz2).mono ?_
      rintro e w3 ⟨rfl, hb3⟩
      rw [HO.out]
      rw [HSF.out] at hsl
      go_wp2_with fail
      refine (open_any _ _ ho).mono ?_
      rintro e w4 ⟨rfl, hb4⟩
      rw [HC.out]
      go_wp2
      go_ret
      exact ⟨rfl, bstep (bstep (bstep hb1 hb2) hb3) hb4⟩
    · have H1 := Lib.hid hc1
      have H2 := Lib.hid hc2
      have h3 : (openOf s).1.size ≤ 1000 := by omega
      have H3 := Lib.hid h3
      clear hc1 hc2 hc3 h3
      go_enter Try.func7, Try.ntmps7
      go_wp2_with fail
      refine (awake_any _).mono ?_
      rintro e w1 ⟨rfl, hb1⟩
      go_wp2_with fail
      refine (seal_any _ _ hp).mono ?_
      rintro e w2 ⟨rfl, hb2⟩
      go_wp2_with fail
      refine (open_any _ _ hz2).mono ?_
      rintro e w3 ⟨rfl, hb3⟩
      rw [HO.out]
      rw [HSF.out] at hsl
      go_wp2_with fail
      refine (open_any _ _ ho).mono ?_
      rintro e w4 ⟨rfl, hb4⟩
      rw [H1.out]
      go_wp2_with fail
      refine (seal_any _ _ H3.out).mono ?_
      rintro e w5 ⟨rfl, hb5⟩
      rw [H2.out]
      go_wp2
      go_ret
      exact ⟨rfl, bstep (bstep (bstep (bstep hb1 hb2) hb3) hb4) hb5⟩
  · go_enter Try.func7, Try.ntmps7
    go_wp2_with fail
    refine (awake_any _).mono ?_
    rintro e w1 ⟨rfl, hb1⟩
    go_wp2_with fail
    refine (awake_any _).mono ?_
    rintro e w2 ⟨rfl, hb2⟩
    go_wp2
    go_ret
    exact ⟨rfl, bstep hb1 hb2⟩

theorem numbers_row (a0 : Int) (a1 : ByteArray) (w : World) (w0 : (Lit.int .u32 a0).wf = true) (_w1 : a1.size ≤ maxLen) :
    Calls Try.prog 5 #[.int .u32 a0, .string a1] w fun e w' => e = .returned (.bool true) ∧ Below w.heap.size w w' := by
  obtain ⟨n, rfl, hn⟩ := nat_u32 w0
  exact numbers_walk n a1 w hn
theorem seals_row (a0 : ByteArray) (w : World) (_w0 : a0.size ≤ maxLen) :
    Calls Try.prog 6 #[.string a0] w fun e w' => e = .returned (.bool true) ∧ Below w.heap.size w w' := seals_walk a0 w
theorem opens_row (a0 : ByteArray) (w : World) (_w0 : a0.size ≤ maxLen) :
    Calls Try.prog 7 #[.string a0] w fun e w' => e = .returned (.bool true) ∧ Below w.heap.size w w' := opens_walk a0 w
end Go.Proofs.Ytgjenjgiepheoaa
