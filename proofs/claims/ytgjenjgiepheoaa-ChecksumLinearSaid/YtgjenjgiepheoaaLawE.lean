/- The walk of the law Linear. -/
import Derived.Test.YtgjenjgiepheoaaLawD
import Derived.WalkLawsBesides
namespace Go.Proofs.Ytgjenjgiepheoaa
open Go.RowKit Crc

theorem min3 (a b c : Nat) : ∃ n, n = min a (min b c) ∧ n ≤ a ∧ n ≤ b ∧ n ≤ c := ⟨_, rfl, by omega, by omega, by omega⟩

theorem linear_sum (a b c : ByteArray) (n : Nat) (ha : a.size = n) (hb : b.size = n) (hc : c.size = n) :
    Crc.sum (ofList (xorTo (ofList (xorTo a.data.toList 0 b.data.toList b.size)).data.toList 0 c.data.toList c.size)).data.toList = Crc.sum a.data.toList ^^^ Crc.sum b.data.toList ^^^ Crc.sum c.data.toList := by
  have la : a.data.toList.length = n := by simpa using ha
  have lb : b.data.toList.length = n := by simpa using hb
  have lc : c.data.toList.length = n := by simpa using hc
  show Crc.sum (xorTo (xorTo a.data.toList 0 b.data.toList b.size) 0 c.data.toList c.size) = _
  rw [show b.size = b.data.toList.length by omega, show c.size = c.data.toList.length by omega]
  rw [xorTo_zip a.data.toList b.data.toList (by omega), xorTo_zip (zipx a.data.toList b.data.toList) c.data.toList (by rw [zipx_length _ _ (by omega)]; omega)]
  exact sum_three _ _ _ (by omega) (by omega)

theorem xor_three {a b c : Nat} (ha : a < 4294967296) (hb : b < 4294967296) (hc : c < 4294967296) :
    bits .xor .u32 (bits .xor .u32 (a : Int) (b : Int)) (c : Int) = ((a ^^^ b ^^^ c : Nat) : Int) := by
  rw [u32_xor_nat _ _ ha hb, u32_xor_nat _ _ (Nat.xor_lt_two_pow (n := 32) ha hb) hc]

set_option maxHeartbeats 3200000 in
theorem linear_walk (a b c : ByteArray) (w : World) :
    Calls Try.prog 4 #[.string a, .string b, .string c] w fun e w' => e = .returned (.bool true) ∧ Below w.heap.size w w' := by
  by_cases hl : a.size ≤ 300 ∧ b.size ≤ 300 ∧ c.size ≤ 300
  · obtain ⟨ha, hb, hc⟩ := hl
    obtain ⟨n, hn, na, nb, nc⟩ := min3 a.size b.size c.size
    have HN := Lib.hid hn
    clear hn
    have h1 := slice_to a n na
    have h2 := slice_to b n nb
    have h3 := slice_to c n nc
    go_enter Try.func4, Try.ntmps4
    go_wp2_with fail
    refine (awake_any _).mono ?_
    rintro e w1 ⟨rfl, hb1⟩
    go_wp2_with fail
    · obtain rfl : n = c.size := by have := HN.out; omega
      have hza : (a.extract 0 c.size).size = c.size := by rw [ByteArray.size_extract]; omega
      have hzb : (b.extract 0 c.size).size = c.size := by rw [ByteArray.size_extract]; omega
      have HL := Lib.hid (linear_sum (a.extract 0 c.size) (b.extract 0 c.size) c c.size hza hzb rfl)
      have HZa := Lib.hid hza
      have HZb := Lib.hid hzb
      clear hza hzb
      go_quiet (fail)
      go_wp2_with fail
      clear h1 h2 h3
      generalize a.extract 0 c.size = A at HL HZa ⊢
      generalize b.extract 0 c.size = B at HL HZb ⊢
      have hsa : A.size ≤ 300 := by have := HZa.out; omega
      have hsb : B.size ≤ 300 := by have := HZb.out; omega
      have hsc : c.size ≤ 300 := by omega
      refine (xor_at A B 0 0 _ rfl (by omega) (by omega) (by omega)).mono ?_
      rintro e w2 ⟨rfl, hb2⟩
      have hsx : (ofList (xorTo A.data.toList 0 B.data.toList B.size)).size ≤ 300 := by rw [ofList_size, xorTo_length]; simpa using hsa
      generalize ofList (xorTo A.data.toList 0 B.data.toList B.size) = X at HL hsx ⊢
      go_wp2_with fail
      refine (xor_at X c 0 0 _ rfl (by omega) (by omega) (by omega)).mono ?_
      rintro e w3 ⟨rfl, hb3⟩
      have hsy : (ofList (xorTo X.data.toList 0 c.data.toList c.size)).size ≤ 300 := by rw [ofList_size, xorTo_length]; simpa using hsx
      generalize ofList (xorTo X.data.toList 0 c.data.toList c.size) = Y at HL hsy ⊢
      go_wp2_with fail
      refine (sum_any Y _ (by unfold maxLen; omega)).mono ?_
      rintro e w4 ⟨rfl, hb4⟩
      go_wp2_with fail
      refine (sum_any A _ (by unfold maxLen; omega)).mono ?_
      rintro e w5 ⟨rfl, hb5⟩
      go_wp2_with fail
      refine (sum_any B _ (by unfold maxLen; omega)).mono ?_
      rintro e w6 ⟨rfl, hb6⟩
      go_wp2_with fail
      refine (sum_any c _ (by unfold maxLen; omega)).mono ?_
      rintro e w7 ⟨rfl, hb7⟩
      rw [HL.out]
      have HX := Lib.hid (xor_three (sum_lt A.data.toList) (sum_lt B.data.toList) (sum_lt c.data.toList))
      generalize Crc.sum A.data.toList ^^^ Crc.sum B.data.toList ^^^ Crc.sum c.data.toList = q at HX ⊢
      go_wp2
      go_ret
      exact ⟨by rw [HX.out]; simp, bstep (bstep (bstep (bstep (bstep (bstep (below_drewN hb1 _) hb2) hb3) hb4) hb5) hb6) hb7⟩
    · obtain rfl : n = b.size := by have := HN.out; omega
      have hza : (a.extract 0 b.size).size = b.size := by rw [ByteArray.size_extract]; omega
      have hzc : (c.extract 0 b.size).size = b.size := by rw [ByteArray.size_extract]; omega
      have HL := Lib.hid (linear_sum (a.extract 0 b.size) b (c.extract 0 b.size) b.size hza rfl hzc)
      have HZa := Lib.hid hza
      have HZc := Lib.hid hzc
      clear hza hzc
      go_quiet (fail)
      go_wp2_with fail
      clear h1 h2 h3
      generalize a.extract 0 b.size = A at HL HZa ⊢
      generalize c.extract 0 b.size = C at HL HZc ⊢
      have hsa : A.size ≤ 300 := by have := HZa.out; omega
      have hsb : b.size ≤ 300 := by omega
      have hsc : C.size ≤ 300 := by have := HZc.out; omega
      refine (xor_at A b 0 0 _ rfl (by omega) (by omega) (by omega)).mono ?_
      rintro e w2 ⟨rfl, hb2⟩
      have hsx : (ofList (xorTo A.data.toList 0 b.data.toList b.size)).size ≤ 300 := by rw [ofList_size, xorTo_length]; simpa using hsa
      generalize ofList (xorTo A.data.toList 0 b.data.toList b.size) = X at HL hsx ⊢
      go_wp2_with fail
      refine (xor_at X C 0 0 _ rfl (by omega) (by omega) (by omega)).mono ?_
      rintro e w3 ⟨rfl, hb3⟩
      have hsy : (ofList (xorTo X.data.toList 0 C.data.toList C.size)).size ≤ 300 := by rw [ofList_size, xorTo_length]; simpa using hsx
      generalize ofList (xorTo X.data.toList 0 C.data.toList C.size) = Y at HL hsy ⊢
      go_wp2_with fail
      refine (sum_any Y _ (by unfold maxLen; omega)).mono ?_
      rintro e w4 ⟨rfl, hb4⟩
      go_wp2_with fail
      refine (sum_any A _ (by unfold maxLen; omega)).mono ?_
      rintro e w5 ⟨rfl, hb5⟩
      go_wp2_with fail
      refine (sum_any b _ (by unfold maxLen; omega)).mono ?_
      rintro e w6 ⟨rfl, hb6⟩
      go_wp2_with fail
      refine (sum_any C _ (by unfold maxLen; omega)).mono ?_
      rintro e w7 ⟨rfl, hb7⟩
      rw [HL.out]
      have HX := Lib.hid (xor_three (sum_lt A.data.toList) (sum_lt b.data.toList) (sum_lt C.data.toList))
      generalize Crc.sum A.data.toList ^^^ Crc.sum b.data.toList ^^^ Crc.sum C.data.toList = q at HX ⊢
      go_wp2
      go_ret
      exact ⟨by rw [HX.out]; simp, bstep (bstep (bstep (bstep (bstep (bstep (below_drewN hb1 _) hb2) hb3) hb4) hb5) hb6) hb7⟩
    · obtain rfl : n = a.size := by have := HN.out; omega
      have hzb : (b.extract 0 a.size).size = a.size := by rw [ByteArray.size_extract]; omega
      have hzc : (c.extract 0 a.size).size = a.size := by rw [ByteArray.size_extract]; omega
      have HL := Lib.hid (linear_sum a (b.extract 0 a.size) (c.extract 0 a.size) a.size rfl hzb hzc)
      have HZb := Lib.hid hzb
      have HZc := Lib.hid hzc
      clear hzb hzc
      go_quiet (fail)
      go_wp2_with fail
      clear h1 h2 h3
      generalize b.extract 0 a.size = B at HL HZb ⊢
      generalize c.extract 0 a.size = C at HL HZc ⊢
      have hsa : a.size ≤ 300 := by omega
      have hsb : B.size ≤ 300 := by have := HZb.out; omega
      have hsc : C.size ≤ 300 := by have := HZc.out; omega
      refine (xor_at a B 0 0 _ rfl (by omega) (by omega) (by omega)).mono ?_
      rintro e w2 ⟨rfl, hb2⟩
      have hsx : (ofList (xorTo a.data.toList 0 B.data.toList B.size)).size ≤ 300 := by rw [ofList_size, xorTo_length]; simpa using hsa
      generalize ofList (xorTo a.data.toList 0 B.data.toList B.size) = X at HL hsx ⊢
      go_wp2_with fail
      refine (xor_at X C 0 0 _ rfl (by omega) (by omega) (by omega)).mono ?_
      rintro e w3 ⟨rfl, hb3⟩
      have hsy : (ofList (xorTo X.data.toList 0 C.data.toList C.size)).size ≤ 300 := by rw [ofList_size, xorTo_length]; simpa using hsx
      generalize ofList (xorTo X.data.toList 0 C.data.toList C.size) = Y at HL hsy ⊢
      go_wp2_with fail
      refine (sum_any Y _ (by unfold maxLen; omega)).mono ?_
      rintro e w4 ⟨rfl, hb4⟩
      go_wp2_with fail
      refine (sum_any a _ (by unfold maxLen; omega)).mono ?_
      rintro e w5 ⟨rfl, hb5⟩
      go_wp2_with fail
      refine (sum_any B _ (by unfold maxLen; omega)).mono ?_
      rintro e w6 ⟨rfl, hb6⟩
      go_wp2_with fail
      refine (sum_any C _ (by unfold maxLen; omega)).mono ?_
      rintro e w7 ⟨rfl, hb7⟩
      rw [HL.out]
      have HX := Lib.hid (xor_three (sum_lt a.data.toList) (sum_lt B.data.toList) (sum_lt C.data.toList))
      generalize Crc.sum a.data.toList ^^^ Crc.sum B.data.toList ^^^ Crc.sum C.data.toList = q at HX ⊢
      go_wp2
      go_ret
      exact ⟨by rw [HX.out]; simp, bstep (bstep (bstep (bstep (bstep (bstep (below_drewN hb1 _) hb2) hb3) hb4) hb5) hb6) hb7⟩
  · have hcase : (300 < a.size) ∨ (a.size ≤ 300 ∧ 300 < b.size) ∨ (a.size ≤ 300 ∧ b.size ≤ 300 ∧ 300 < c.size) := by omega
    clear hl
    rcases hcase with h | ⟨h, h'⟩ | ⟨h, h', h''⟩
    all_goals
      go_enter Try.func4, Try.ntmps4
      go_wp2_with fail
      refine (awake_any _).mono ?_
      rintro e w1 ⟨rfl, hb1⟩
      go_wp2_with fail
      refine (awake_any _).mono ?_
      rintro e w2 ⟨rfl, hb2⟩
      go_wp2
      go_ret
      exact ⟨rfl, bstep hb1 hb2⟩

theorem linear_row (a0 a1 a2 : ByteArray) (w : World) (_w0 : a0.size ≤ maxLen) (_w1 : a1.size ≤ maxLen) (_w2 : a2.size ≤ maxLen) :
    Calls Try.prog 4 #[.string a0, .string a1, .string a2] w fun e w' => e = .returned (.bool true) ∧ Below w.heap.size w w' := linear_walk a0 a1 a2 w
end Go.Proofs.Ytgjenjgiepheoaa
