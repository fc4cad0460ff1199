/- The law: Decode is the reference's. -/
import Derived.Test.YtnkhifgppcnmkaaDoorL2
import Derived.Test.YtnkhifgppcnmkaaDoorW14
namespace Go.Proofs.YtnkhifgppcnmkaaDoor
open Go.RowKit Iv

theorem decodeOf_bound (size : Int) (d : ByteArray) : (decodeOf size d).1.length ≤ 1000 := by
  by_cases h : (decodeOf size d).2 = 0
  · exact (decoded_bound (l := (decodeOf size d).1) (by rw [← h])).1
  · rw [decode_err h]; simp

set_option maxHeartbeats 3200000 in
set_option maxRecDepth 100000 in
theorem decodes_any (size : Int) (d : ByteArray) (w : World) (_hd : d.size ≤ maxLen) :
    Calls Tryd.prog 5 #[.int .i64 size, .string d] w fun e w' => e = .returned (.bool true) ∧ Below w.heap.size w w' := by
  by_cases hs : d.size ≤ 600
  · have H1 : Hid (d.size ≤ 1000) := by show _ ≤ _; omega
    have HM : Hid (d.size ≤ maxLen) := by show _ ≤ _; unfold maxLen; omega
    have HLN := Lib.hid (decodeOf_bound size d)
    have HD1 : Hid (∀ w', Calls Tryd.prog 31 #[.int .i64 size, .string d] w' fun e w'' => DecodedTo w' (decodeOf size d) e w'') := fun w' => decode_any size d w' H1.out
    have HD2 : Hid (∀ w', Calls Tryd.prog 32 #[.int .i64 size, .string d] w' fun e w'' => DecodedTo w' (decodeOf size d) e w'') := fun w' => refDecode_any size d w' H1.out
    obtain ⟨⟨l, k⟩, hr⟩ : ∃ r, r = decodeOf size d := ⟨_, rfl⟩
    rw [← hr] at HLN HD1 HD2
    clear hr
    go_enter Tryd.func5, Tryd.ntmps5
    go_wp2_with fail
    refine (awake_any _).mono ?_
    rintro e w1 ⟨rfl, hb1⟩
    have HB1 := Lib.hid hb1
    clear hb1
    go_wp2_with fail
    refine (HD1.out _).mono ?_
    rintro e w2 ⟨A, c, rfl, ha, hc, hb2⟩
    have HB2 := Lib.hid (bstep HB1.out hb2)
    have HA := Lib.hid ha
    clear hb2 ha hc
    dsimp only
    go_wp2_with fail
    refine (HD2.out _).mono ?_
    rintro e w3 ⟨A', c', rfl, ha', hc', hb3⟩
    have HB3 := Lib.hid (bstep HB2.out hb3)
    have HA3 := Lib.hid (HA.out.keep hb3)
    have HA' := Lib.hid ha'
    clear hb3 ha' hc'
    dsimp only
    go_wp2_with fail
    refine (texts_any A A' c c' l l _ (by have := HLN.out; omega) (by have := HLN.out; omega) HA3.out HA'.out).mono ?_
    rintro e w4 ⟨rfl, hb4⟩
    have HB4 := Lib.hid (bstep HB3.out hb4)
    clear hb4
    go_wp2_with fail
    refine (unused_any _ _ HM.out).mono ?_
    rintro e w9 ⟨rfl, hb9⟩
    have HB9 := Lib.hid (bstep HB4.out hb9)
    clear hb9
    go_wp2_with fail
    refine (refUnused_any _ _ H1.out).mono ?_
    rintro e w10 ⟨rfl, hb10⟩
    go_wp2
    go_ret
    exact ⟨rfl, bstep HB9.out hb10⟩
  · go_enter Tryd.func5, Tryd.ntmps5
    go_wp2_with fail
    refine (awake_any _).mono ?_
    rintro e w1 ⟨rfl, hb1⟩
    go_wp2
    go_ret
    exact ⟨rfl, hb1⟩
end Go.Proofs.YtnkhifgppcnmkaaDoor
