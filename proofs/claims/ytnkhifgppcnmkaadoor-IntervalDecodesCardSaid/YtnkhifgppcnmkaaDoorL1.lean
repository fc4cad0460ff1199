/- The laws IntervalInverts and IntervalEncodes, walked. -/
import Derived.Test.YtnkhifgppcnmkaaDoorW11
namespace Go.Proofs.YtnkhifgppcnmkaaDoor
open Go.RowKit Iv

theorem encode_err {size : Int} {l : List ByteArray} (h : (encodeOf size l).2 ≠ 0) : (encodeOf size l).1 = ByteArray.empty := by
  unfold encodeOf at *
  split
  · rfl
  · split
    · rfl
    · split
      · rfl
      · rename_i h1 h2 h3
        rw [if_neg h1, if_neg h2, if_neg h3] at h
        exact absurd rfl h

theorem encode_small (size : Int) (l : List ByteArray) : (encodeOf size l).1.size ≤ 512 := by
  by_cases h : (encodeOf size l).2 = 0
  · rcases hE : encodeOf size l with ⟨x, e⟩
    rw [hE] at h
    have h0 : encodeOf size l = (x, 0) := by rw [hE]; exact congrArg _ h
    have h1 := encode_size h0
    have h2 := (encode_ok h0).1
    rcases isSz_cases h2 with h3 | h3 | h3 <;> subst h3 <;> simp only <;> omega
  · rw [encode_err h]; decide

set_option maxHeartbeats 3200000 in
set_option maxRecDepth 100000 in
theorem inverts_any (size : Int) (A : Option Addr) (c : Nat) (l : List ByteArray) (w : World) (hl : l.length ≤ 9223372036854775807) (hc : l.length ≤ c) (hs : StrsA w A l) :
    Calls Tryd.prog 8 #[.int .i64 size, .slice A l.length c] w fun e w' => e = .returned (.bool true) ∧ Below w.heap.size w w' := by
  have HS := Lib.hid hs
  clear hs
  cases hsh : shortOf l with
  | false =>
    go_enter Tryd.func8, Tryd.ntmps8
    go_wp2_with fail
    refine (awake_any _).mono ?_
    rintro e w1 ⟨rfl, hb1⟩
    go_wp2_with fail
    refine (few_any A c l _ hl (HS.out.keep hb1)).mono ?_
    rintro e w2 ⟨rfl, rfl⟩
    rw [hsh]
    go_wp2
    go_ret
    exact ⟨rfl, hb1⟩
  | true =>
    obtain ⟨hl2, hz⟩ := short_sizes hsh
    have HSH := Lib.hid hsh
    have HL2 : Hid (l.length ≤ 1000) := by show _ ≤ _; omega
    have HZ : Hid (∀ s ∈ l, s.size ≤ 1000) := fun s hs => by have := hz s hs; omega
    clear hsh hz
    have HE : Hid (∀ w', Below w.heap.size w w' → Calls Tryd.prog 36 #[.int .i64 size, .slice A l.length c] w' fun e w'' => e = .returned (.tuple #[.string (encodeOf size l).1, .int .i64 (encodeOf size l).2]) ∧ Below w'.heap.size w' w'') := fun w' hb => encode_any size A c l w' HL2.out HZ.out hc (HS.out.keep hb)
    have HF : Hid (∀ w', Below w.heap.size w w' → Calls Tryd.prog 41 #[.int .i64 size, .slice A l.length c] w' fun e w'' => e = .returned (.bool (fitsOf size l)) ∧ Below w'.heap.size w' w'') := fun w' hb => fits_any size A c l w' HL2.out HZ.out hc (HS.out.keep hb)
    have HFIT := Lib.hid (encode_fits size l)
    by_cases he : (encodeOf size l).2 = 0
    · rcases hE : encodeOf size l with ⟨x, e2⟩
      rw [hE] at he HE HFIT
      obtain rfl : e2 = 0 := he
      have hfit : fitsOf size l = true := HFIT.out.1 rfl
      have hsz : (x.size : Int) = size := encode_size hE
      have hx : x.size ≤ 1000 := by have := encode_small size l; rw [hE] at this; simp only at this; omega
      have HX : Hid (x.size ≤ maxLen) := by show _ ≤ _; unfold maxLen; omega
      have HU := Lib.hid (encoded_used hE)
      have HD : Hid (∀ w', Calls Tryd.prog 31 #[.int .i64 size, .string x] w' fun e w'' => ∃ A c, e = .returned (.tuple #[.slice A l.length c, .int .i64 0]) ∧ StrsA w'' A l ∧ Below w'.heap.size w' w'') := by
        show ∀ _, _
        intro w'
        refine (decode_any size x w' hx).mono ?_
        rintro e w'' ⟨A, c, he, hs, _, hb⟩
        rw [decode_encoded hE] at he hs
        exact ⟨A, c, he, hs, hb⟩
      have HT : Hid (∀ (B : Option Addr) (cb : Nat) w', StrsA w' B l → Below w.heap.size w w' → Calls Tryd.prog 33 #[.slice B l.length cb, .slice A l.length c] w' fun e w'' => e = .returned (.bool true) ∧ Below w'.heap.size w' w'') := by
        show ∀ _ _ _, _ → _ → _
        intro B cb w' h1 h2
        have := texts_any B A cb c l l w' (by have := HL2.out; omega) (by have := HL2.out; omega) h1 (HS.out.keep h2)
        rw [decide_eq_true rfl] at this
        exact this
      clear hE HFIT hx
      go_enter Tryd.func8, Tryd.ntmps8
      go_wp2_with fail
      refine (awake_any _).mono ?_
      rintro e w1 ⟨rfl, hb1⟩
      have HB1 := Lib.hid hb1
      clear hb1
      go_wp2_with fail
      refine (few_any A c l _ hl (HS.out.keep HB1.out)).mono ?_
      rintro e w2 ⟨rfl, rfl⟩
      rw [HSH.out]
      go_wp2_with fail
      refine (HE.out _ HB1.out).mono ?_
      rintro e w3 ⟨rfl, hb3⟩
      have HB3 := Lib.hid (bstep HB1.out hb3)
      clear hb3
      go_wp2_with fail
      refine (HF.out _ HB3.out).mono ?_
      rintro e w4 ⟨rfl, hb4⟩
      have HB4 := Lib.hid (bstep HB3.out hb4)
      clear hb4
      rw [hfit]
      go_wp2_with fail
      refine (HD.out _).mono ?_
      rintro e w5 ⟨B, cb, rfl, hs5, hb5⟩
      have HB5 := Lib.hid (bstep HB4.out hb5)
      have HS5 := Lib.hid hs5
      clear hb5 hs5
      go_wp2_with fail
      refine (HT.out _ _ _ HS5.out HB5.out).mono ?_
      rintro e w6 ⟨rfl, hb6⟩
      have HB6 := Lib.hid (bstep HB5.out hb6)
      clear hb6
      go_wp2_with fail
      refine (unused_any _ _ HX.out).mono ?_
      rintro e w7 ⟨rfl, hb7⟩
      rw [HU.out]
      go_wp2
      go_ret
      exact ⟨rfl, bstep HB6.out hb7⟩
    · have hfit : fitsOf size l = false := by
        cases h : fitsOf size l with
        | false => rfl
        | true => exact absurd (HFIT.out.2 h) he
      have hem := encode_err he
      obtain ⟨e2, he2⟩ : ∃ e2, e2 = (encodeOf size l).2 := ⟨_, rfl⟩
      rw [← he2] at he HE
      rw [hem] at HE
      have he1 : (e2 == 0) = false := by simp [he]
      have he3 : (e2 != 0) = true := by simp [he]
      clear he he2 hem HFIT
      go_enter Tryd.func8, Tryd.ntmps8
      go_wp2_with fail
      refine (awake_any _).mono ?_
      rintro e w1 ⟨rfl, hb1⟩
      have HB1 := Lib.hid hb1
      clear hb1
      go_wp2_with fail
      refine (few_any A c l _ hl (HS.out.keep HB1.out)).mono ?_
      rintro e w2 ⟨rfl, rfl⟩
      rw [HSH.out]
      go_wp2_with fail
      refine (HE.out _ HB1.out).mono ?_
      rintro e w3 ⟨rfl, hb3⟩
      have HB3 := Lib.hid (bstep HB1.out hb3)
      clear hb3
      go_wp2_with fail
      refine (HF.out _ HB3.out).mono ?_
      rintro e w4 ⟨rfl, hb4⟩
      rw [hfit]
      go_wp2
      go_ret
      exact ⟨rfl, bstep HB3.out hb4⟩

set_option maxHeartbeats 3200000 in
set_option maxRecDepth 100000 in
theorem encodes_any (size : Int) (A : Option Addr) (c : Nat) (l : List ByteArray) (w : World) (hl : l.length ≤ 9223372036854775807) (hc : l.length ≤ c) (hs : StrsA w A l) :
    Calls Tryd.prog 7 #[.int .i64 size, .slice A l.length c] w fun e w' => e = .returned (.bool true) ∧ Below w.heap.size w w' := by
  have HS := Lib.hid hs
  clear hs
  cases hsh : shortOf l with
  | false =>
    go_enter Tryd.func7, Tryd.ntmps7
    go_wp2_with fail
    refine (awake_any _).mono ?_
    rintro e w1 ⟨rfl, hb1⟩
    go_wp2_with fail
    refine (few_any A c l _ hl (HS.out.keep hb1)).mono ?_
    rintro e w2 ⟨rfl, rfl⟩
    rw [hsh]
    go_wp2
    go_ret
    exact ⟨rfl, hb1⟩
  | true =>
    obtain ⟨hl2, hz⟩ := short_sizes hsh
    have HSH := Lib.hid hsh
    have HL2 : Hid (l.length ≤ 1000) := by show _ ≤ _; omega
    have HZ : Hid (∀ s ∈ l, s.size ≤ 1000) := fun s hs => by have := hz s hs; omega
    have HX := Lib.hid (encode_small size l)
    clear hsh hz
    have HE : Hid (∀ w', Below w.heap.size w w' → Calls Tryd.prog 36 #[.int .i64 size, .slice A l.length c] w' fun e w'' => e = .returned (.tuple #[.string (encodeOf size l).1, .int .i64 (encodeOf size l).2]) ∧ Below w'.heap.size w' w'') := fun w' hb => encode_any size A c l w' HL2.out HZ.out hc (HS.out.keep hb)
    have HE2 : Hid (∀ w', Below w.heap.size w w' → Calls Tryd.prog 38 #[.int .i64 size, .slice A l.length c] w' fun e w'' => e = .returned (.tuple #[.string (encodeOf size l).1, .int .i64 (encodeOf size l).2]) ∧ Below w'.heap.size w' w'') := fun w' hb => refEncode_any size A c l w' HL2.out HZ.out (HS.out.keep hb)
    obtain ⟨⟨x, e2⟩, hE⟩ : ∃ E, E = encodeOf size l := ⟨_, rfl⟩
    rw [← hE] at HE HE2 HX
    clear hE
    have HX2 : Hid (x.size ≤ maxLen) := by show _ ≤ _; have := HX.out; unfold maxLen; simp only at this; omega
    have HX3 : Hid (x.size ≤ 1000) := by show _ ≤ _; have := HX.out; simp only at this; omega
    go_enter Tryd.func7, Tryd.ntmps7
    go_wp2_with fail
    refine (awake_any _).mono ?_
    rintro e w1 ⟨rfl, hb1⟩
    have HB1 := Lib.hid hb1
    clear hb1
    go_wp2_with fail
    refine (few_any A c l _ hl (HS.out.keep HB1.out)).mono ?_
    rintro e w2 ⟨rfl, rfl⟩
    rw [HSH.out]
    go_wp2_with fail
    refine (HE.out _ HB1.out).mono ?_
    rintro e w3 ⟨rfl, hb3⟩
    have HB3 := Lib.hid (bstep HB1.out hb3)
    clear hb3
    go_wp2_with fail
    refine (HE2.out _ HB3.out).mono ?_
    rintro e w4 ⟨rfl, hb4⟩
    have HB4 := Lib.hid (bstep HB3.out hb4)
    clear hb4
    go_wp2_with fail
    refine (size_any A c l _ HL2.out HZ.out hc (HS.out.keep HB4.out)).mono ?_
    rintro e w5 ⟨rfl, hb5⟩
    have HB5 := Lib.hid (bstep HB4.out hb5)
    clear hb5
    go_wp2_with fail
    refine (refSize_any A c l _ HL2.out HZ.out (HS.out.keep HB5.out)).mono ?_
    rintro e w6 ⟨rfl, hb6⟩
    have HB6 := Lib.hid (bstep HB5.out hb6)
    clear hb6
    go_wp2_with fail
    refine (fits_any size A c l _ HL2.out HZ.out hc (HS.out.keep HB6.out)).mono ?_
    rintro e w7 ⟨rfl, hb7⟩
    have HB7 := Lib.hid (bstep HB6.out hb7)
    clear hb7
    go_wp2_with fail
    refine (refFits_any size A c l _ HL2.out HZ.out (HS.out.keep HB7.out)).mono ?_
    rintro e w8 ⟨rfl, hb8⟩
    have HB8 := Lib.hid (bstep HB7.out hb8)
    clear hb8
    go_wp2_with fail
    refine (unused_any _ _ HX2.out).mono ?_
    rintro e w9 ⟨rfl, hb9⟩
    have HB9 := Lib.hid (bstep HB8.out hb9)
    clear hb9
    go_wp2_with fail
    refine (refUnused_any _ _ HX3.out).mono ?_
    rintro e w10 ⟨rfl, hb10⟩
    go_wp2
    go_ret
    exact ⟨rfl, bstep HB9.out hb10⟩
end Go.Proofs.YtnkhifgppcnmkaaDoor
