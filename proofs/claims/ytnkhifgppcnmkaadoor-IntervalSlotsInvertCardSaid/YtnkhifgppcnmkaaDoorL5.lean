/- The law: SlotCount, EncodeSlots and DecodeSlots are the reference's. -/
import Derived.Test.YtnkhifgppcnmkaaDoorW11
import Derived.Test.YtnkhifgppcnmkaaDoorW20
namespace Go.Proofs.YtnkhifgppcnmkaaDoor
open Go.RowKit Iv

theorem decSlots_bound (size len : Int) (d : ByteArray) : (decSlots size len d).1.length ≤ 1000 := by
  by_cases h : (decSlots size len d).2 = 0
  · obtain ⟨_, h2, h3⟩ := decSlots_ok h
    have := slotCount_facts h3
    omega
  · rw [decSlots_err h]; simp

set_option maxHeartbeats 3200000 in
set_option maxRecDepth 100000 in
theorem slots_any (size len : Int) (A : Option Addr) (c : Nat) (l : List Slt) (d : ByteArray) (w : World) (hl : l.length ≤ 9223372036854775807) (_hc : l.length ≤ c) (hs : RowA w A (sltCells l)) (hd : d.size ≤ maxLen) :
    Calls Tryd.prog 10 #[.int .i64 size, .int .i64 len, .slice A l.length c, .string d] w fun e w' => e = .returned (.bool true) ∧ Below w.heap.size w w' := by
  have HS := Lib.hid hs
  have HDM := Lib.hid hd
  clear hs hd
  by_cases h1 : l.length ≤ 200
  · by_cases h2 : d.size ≤ 600
    · have H1 : Hid (d.size ≤ 1000) := by show _ ≤ _; omega
      have HLN := Lib.hid (decSlots_bound size len d)
      have HE1 : Hid (∀ w', Below w.heap.size w w' → Calls Tryd.prog 43 #[.int .i64 size, .int .i64 len, .slice A l.length c] w' fun e w'' => e = .returned (.tuple #[.string (encSlots size len l).1, .int .i64 (encSlots size len l).2]) ∧ Below w'.heap.size w' w'') := fun w' hb => encSlots_any size len A c l w' (HS.out.keep hb)
      have HE2 : Hid (∀ w', Below w.heap.size w w' → Calls Tryd.prog 44 #[.int .i64 size, .int .i64 len, .slice A l.length c] w' fun e w'' => e = .returned (.tuple #[.string (encSlots size len l).1, .int .i64 (encSlots size len l).2]) ∧ Below w'.heap.size w' w'') := fun w' hb => refEncSlots_any size len A c l w' (HS.out.keep hb)
      have HD1 : Hid (∀ w', Calls Tryd.prog 45 #[.int .i64 size, .int .i64 len, .string d] w' fun e w'' => SlotsTo w' (decSlots size len d) e w'') := fun w' => decSlots_any size len d w' H1.out
      have HD2 : Hid (∀ w', Calls Tryd.prog 46 #[.int .i64 size, .int .i64 len, .string d] w' fun e w'' => SlotsTo w' (decSlots size len d) e w'') := fun w' => refDecSlots_any size len d w' H1.out
      obtain ⟨⟨x, e1⟩, hx⟩ : ∃ r, r = encSlots size len l := ⟨_, rfl⟩
      rw [← hx] at HE1 HE2
      obtain ⟨⟨ss, e2⟩, hss⟩ : ∃ r, r = decSlots size len d := ⟨_, rfl⟩
      rw [← hss] at HD1 HD2 HLN
      clear hx hss
      go_enter Tryd.func10, Tryd.ntmps10
      go_wp2_with fail
      refine (awake_any _).mono ?_
      rintro e w1 ⟨rfl, hb1⟩
      have HB1 := Lib.hid hb1
      clear hb1
      go_wp2
      go_loop [9] (fun i => ∃ k : Nat, k ≤ l.length ∧ i = .int .i64 k) (fun i => l.length - (intOf i).toNat)
      case atStart => exact ⟨0, by omega, rfl⟩
      case round =>
        obtain ⟨k, hk, rfl⟩ := hrel
        by_cases hlt : k < l.length
        · obtain ⟨b, o, rfl, hb, hc1, hc2⟩ := slots_at (HS.out.keep HB1.out) k hlt
          go_wp2
          · go_ret
            exact ⟨rfl, HB1.out⟩
          · exact ⟨⟨k + 1, by omega, by go_num⟩, by simp [intOf]; omega⟩
        · go_wp2_with fail
          refine (HE1.out _ HB1.out).mono ?_
          rintro e w3 ⟨rfl, hb3⟩
          have HB3 := Lib.hid (bstep HB1.out hb3)
          clear hb3
          go_wp2_with fail
          refine (HE2.out _ HB3.out).mono ?_
          rintro e w4 ⟨rfl, hb4⟩
          have HB4 := Lib.hid (bstep HB3.out hb4)
          clear hb4
          go_wp2_with fail
          refine (HD1.out _).mono ?_
          rintro e w5 ⟨v5, rfl, ho5, hb5⟩
          have HB5 := Lib.hid (bstep HB4.out hb5)
          obtain ⟨A5, c5, rfl, hr5, _⟩ := own_row ho5
          have HR5 := Lib.hid hr5
          clear hb5 ho5 hr5
          dsimp only
          go_wp2_with fail
          refine (HD2.out _).mono ?_
          rintro e w6 ⟨v6, rfl, ho6, hb6⟩
          have HB6 := Lib.hid (bstep HB5.out hb6)
          obtain ⟨A6, c6, rfl, hr6, _⟩ := own_row ho6
          have HR6 := Lib.hid hr6
          have HR56 := Lib.hid (HR5.out.keep hb6)
          clear hb6 ho6 hr6
          dsimp only
          go_wp2_with fail
          refine (sameSlots_any A5 A6 c5 c6 ss ss _ (by have := HLN.out; omega) HR56.out HR6.out).mono ?_
          rintro e w7 ⟨rfl, hb7⟩
          have HB7 := Lib.hid (bstep HB6.out hb7)
          clear hb7
          go_wp2_with fail
          refine (slotCount_any _ _ _).mono ?_
          rintro e w8 ⟨rfl, rfl⟩
          go_wp2_with fail
          refine (refSlotCount_any _ _ _).mono ?_
          rintro e w9 ⟨rfl, rfl⟩
          go_wp2
          go_ret
          exact ⟨rfl, HB7.out⟩
    · go_enter Tryd.func10, Tryd.ntmps10
      go_wp2_with fail
      refine (awake_any _).mono ?_
      rintro e w1 ⟨rfl, hb1⟩
      go_wp2
      go_ret
      exact ⟨rfl, hb1⟩
  · go_enter Tryd.func10, Tryd.ntmps10
    go_wp2_with fail
    refine (awake_any _).mono ?_
    rintro e w1 ⟨rfl, hb1⟩
    go_wp2
    go_ret
    exact ⟨rfl, hb1⟩
end Go.Proofs.YtnkhifgppcnmkaaDoor
