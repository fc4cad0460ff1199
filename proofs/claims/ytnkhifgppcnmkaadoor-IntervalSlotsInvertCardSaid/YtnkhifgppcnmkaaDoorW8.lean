/- Walks: the reference's join, Size, Fits, Encode. -/
import Derived.Test.YtnkhifgppcnmkaaDoorW7
namespace Go.Proofs.YtnkhifgppcnmkaaDoor
open Go.RowKit Iv

set_option maxHeartbeats 1600000 in
set_option maxRecDepth 100000 in
theorem join_any (A : Option Addr) (c : Nat) (l : List ByteArray) (w : World) (hl : l.length ≤ 1000) (hr : ∀ s ∈ l, s.size ≤ 1000) (hs : StrsA w A l) :
    Calls Tryd.prog 98 #[.slice A l.length c] w fun e w' => e = .returned (.string (ofL (content l))) ∧ w' = w := by
  have HS := Lib.hid hs
  have HR := Lib.hid hr
  have HCB := Lib.hid (content_bound l 1000 hr)
  clear hs hr
  go_enter Tryd.func98, Tryd.ntmps98
  go_wp2
  go_loop [3, 4] (fun x y => ∃ k : Nat, k ≤ l.length ∧ x = .string (ofL (content (l.take k))) ∧ y = .int .i64 k) (fun _ y => l.length - (intOf y).toNat)
  case atStart => exact ⟨0, by omega, rfl, rfl⟩
  case round =>
    obtain ⟨k, hk, rfl, rfl⟩ := hrel
    by_cases hlt : k < l.length
    · obtain ⟨b, o, rfl, hbl, hcell⟩ := HS.out (by omega)
      have hck := hcell k hlt
      have HT := Lib.hid (content_take l k hlt)
      have HPF := Lib.hid (content_prefix l k)
      have HPF2 := Lib.hid (content_prefix l (k + 1))
      obtain ⟨s, hs⟩ : ∃ s, s = l.getD k ByteArray.empty := ⟨_, rfl⟩
      rw [← hs] at hck HT
      obtain ⟨xs, hxs⟩ : ∃ x, x = ofL (content (l.take k)) := ⟨_, rfl⟩
      rw [← hxs]
      have ha1 : ∀ w, (Op.stringOp .add xs s).run Tryd.prog w = .ok (.string (ofL (content (l.take (k + 1))))) w := fun w => by
        rw [run_string_add_sum w _ _ ?_, HT.out, ← ofL_append, ofL_toList, hxs]
        have h1 := HPF2.out
        rw [HT.out, List.length_append] at h1
        have h2 := HCB.out
        have e : s.data.toList.length = s.size := by simp
        rw [hxs, ofL_size]
        omega
      have HA := Lib.hid ha1
      obtain ⟨ys, hys⟩ : ∃ x, x = ofL (content (l.take (k + 1))) := ⟨_, rfl⟩
      rw [← hys] at ha1
      have HY := Lib.hid hys
      clear hcell hs hxs hys
      go_wp2
      exact ⟨⟨k + 1, by omega, by rw [HY.out], by go_num⟩, by simp [intOf]; omega⟩
    · have hkl : k = l.length := by omega
      rw [List.take_of_length_le (by omega)]
      go_wp2
      go_ret
      exact ⟨rfl, rfl⟩

set_option maxHeartbeats 1600000 in
set_option maxRecDepth 100000 in
theorem refSize_any (A : Option Addr) (c : Nat) (l : List ByteArray) (w : World) (hl : l.length ≤ 1000) (hr : ∀ s ∈ l, s.size ≤ 1000) (hs : StrsA w A l) :
    Calls Tryd.prog 40 #[.slice A l.length c] w fun e w' => e = .returned (.int .i64 (szOf l)) ∧ Below w.heap.size w w' := by
  have HS := Lib.hid hs
  have HR := Lib.hid hr
  have HCB := Lib.hid (content_bound l 1000 hr)
  have HFB := Lib.hid (fields_bound l)
  have HSZ := Lib.hid (sizes l)
  have HFL := Lib.hid (ofL_size (fieldsOf l))
  clear hs hr
  obtain ⟨fs, hfs⟩ : ∃ fs, fs = ofL (fieldsOf l) := ⟨_, rfl⟩
  rw [← hfs] at HFL
  have HF : Hid (∀ w', StrsA w' A l → Calls Tryd.prog 99 #[.slice A l.length c] w' fun e w'' => e = .returned (.string fs) ∧ Below w'.heap.size w' w'') := by
    show ∀ _, _
    intro w' h
    rw [hfs]
    exact refFields_any A c l w' hl HR.out h
  clear hfs
  have hfb : fs.size ≤ 6000 := by have := HFL.out; have := HFB.out; omega
  go_enter Tryd.func40, Tryd.ntmps40
  go_wp2_with fail
  refine (HF.out _ HS.out).mono ?_
  rintro e w1 ⟨rfl, hb1⟩
  have HB1 := Lib.hid hb1
  clear hb1
  go_wp2
  go_loop [3, 4] (fun x y => ∃ k : Nat, k ≤ l.length ∧ x = .int .i64 ((4 + fs.size + (content (l.take k)).length : Nat)) ∧ y = .int .i64 k) (fun _ y => l.length - (intOf y).toNat)
  case atStart => exact ⟨0, by omega, by go_num, rfl⟩
  case round =>
    obtain ⟨k, hk, rfl, rfl⟩ := hrel
    obtain ⟨n, hn⟩ : ∃ n, n = 4 + fs.size + (content (l.take k)).length := ⟨_, rfl⟩
    rw [← hn]
    have HPF := Lib.hid (content_prefix l k)
    have hnb : n ≤ 10000000 := by have := HPF.out; have := HCB.out; omega
    by_cases hlt : k < l.length
    · obtain ⟨b, o, rfl, hbl, hcell⟩ := (HS.out.keep HB1.out) (by omega)
      have hck := hcell k hlt
      have HT := Lib.hid (content_take l k hlt)
      have HPF2 := Lib.hid (content_prefix l (k + 1))
      obtain ⟨s, hs⟩ : ∃ s, s = l.getD k ByteArray.empty := ⟨_, rfl⟩
      rw [← hs] at hck HT
      have HE : Hid (4 + fs.size + (content (l.take (k + 1))).length = n + s.size) := by
        show _ = _
        have e : s.data.toList.length = s.size := by simp
        rw [HT.out, List.length_append, hn]
        omega
      have hsb : s.size ≤ 10000000 := by have := HE.out; have := HPF2.out; have := HCB.out; omega
      have HN := Lib.hid hn
      clear hcell hs hn
      go_wp2
      exact ⟨⟨k + 1, by omega, by rw [HE.out]; go_num, by go_num⟩, by simp [intOf]; omega⟩
    · have hkl : k = l.length := by omega
      have HE : Hid (n = szOf l) := by
        show _ = _
        rw [hn, HSZ.out, List.take_of_length_le (by omega)]
        have := HFL.out
        omega
      clear hn
      go_wp2
      go_ret
      exact ⟨ret_int (by rw [HE.out]), HB1.out⟩

set_option maxHeartbeats 1600000 in
theorem refFits_any (size : Int) (A : Option Addr) (c : Nat) (l : List ByteArray) (w : World) (hl : l.length ≤ 1000) (hr : ∀ s ∈ l, s.size ≤ 1000) (hs : StrsA w A l) :
    Calls Tryd.prog 42 #[.int .i64 size, .slice A l.length c] w fun e w' => e = .returned (.bool (fitsOf size l)) ∧ Below w.heap.size w w' := by
  have HS := Lib.hid hs
  have HR := Lib.hid hr
  have hlm : l.length ≤ maxLen := by unfold maxLen; omega
  have HLM := Lib.hid hlm
  clear hs hr hlm
  cases h1 : isSz size with
  | false =>
    have he : fitsOf size l = false := by unfold fitsOf; rw [h1]; rfl
    rw [he]
    go_enter Tryd.func42, Tryd.ntmps42
    go_wp2_with fail
    refine (refIsSize_any _ _).mono ?_
    rintro e w' ⟨rfl, rfl⟩
    go_wp2
    go_ret
    exact ⟨rfl, Below.refl _ _⟩
  | true =>
    cases h2 : okRec l with
    | false =>
      have he : fitsOf size l = false := by unfold fitsOf; rw [h1, h2]; rfl
      rw [he]
      go_enter Tryd.func42, Tryd.ntmps42
      go_wp2_with fail
      refine (refIsSize_any _ _).mono ?_
      rintro e w' ⟨rfl, rfl⟩
      go_wp2_with fail
      refine (refAllowed_any A c l _ HLM.out HS.out).mono ?_
      rintro e w' ⟨rfl, rfl⟩
      go_wp2
      go_ret
      exact ⟨rfl, Below.refl _ _⟩
    | true =>
      have he : fitsOf size l = decide ((szOf l : Int) ≤ size) := by unfold fitsOf; rw [h1, h2]; rfl
      rw [he]
      go_enter Tryd.func42, Tryd.ntmps42
      go_wp2_with fail
      refine (refIsSize_any _ _).mono ?_
      rintro e w' ⟨rfl, rfl⟩
      go_wp2_with fail
      refine (refAllowed_any A c l _ HLM.out HS.out).mono ?_
      rintro e w' ⟨rfl, rfl⟩
      go_wp2_with fail
      refine (refSize_any A c l _ hl HR.out HS.out).mono ?_
      rintro e w1 ⟨rfl, hb1⟩
      go_wp2
      go_ret
      exact ⟨rfl, hb1⟩

theorem whole_at (size : Nat) (ii : Int) (c f : List UInt8) (w : World) (hi : ii = size) (hs : size ≤ 1000) (hfit : 4 + c.length + f.length ≤ size) :
    Calls Tryd.prog 97 #[.int .i64 ii, .string (ofL c), .string (ofL f)] w fun e w' => e = .returned (.string (ofL (whole size c f))) ∧ Below w.heap.size w w' := by
  subst hi
  exact whole_any size c f w hs hfit

set_option maxHeartbeats 3200000 in
theorem refEncode_any (size : Int) (A : Option Addr) (c : Nat) (l : List ByteArray) (w : World) (hl : l.length ≤ 1000) (hr : ∀ s ∈ l, s.size ≤ 1000) (hs : StrsA w A l) :
    Calls Tryd.prog 38 #[.int .i64 size, .slice A l.length c] w fun e w' => e = .returned (.tuple #[.string (encodeOf size l).1, .int .i64 (encodeOf size l).2]) ∧ Below w.heap.size w w' := by
  have HS := Lib.hid hs
  have HR := Lib.hid hr
  have hlm : l.length ≤ maxLen := by unfold maxLen; omega
  have HLM := Lib.hid hlm
  clear hs hr hlm
  cases h1 : isSz size with
  | false =>
    have he : encodeOf size l = (ByteArray.empty, 1) := by unfold encodeOf; rw [if_pos h1]
    rw [he]
    go_enter Tryd.func38, Tryd.ntmps38
    go_wp2_with fail
    refine (refIsSize_any _ _).mono ?_
    rintro e w' ⟨rfl, rfl⟩
    go_wp2
    go_ret2
    exact ⟨rfl, Below.refl _ _⟩
  | true =>
    cases h2 : okRec l with
    | false =>
      have he : encodeOf size l = (ByteArray.empty, 2) := by unfold encodeOf; rw [if_neg (by simp [h1]), if_pos h2]
      rw [he]
      go_enter Tryd.func38, Tryd.ntmps38
      go_wp2_with fail
      refine (refIsSize_any _ _).mono ?_
      rintro e w' ⟨rfl, rfl⟩
      go_wp2_with fail
      refine (refAllowed_any A c l _ HLM.out HS.out).mono ?_
      rintro e w' ⟨rfl, rfl⟩
      go_wp2
      go_ret2
      exact ⟨rfl, Below.refl _ _⟩
    | true =>
      by_cases h3 : size < (szOf l : Int)
      · have he : encodeOf size l = (ByteArray.empty, 8) := by unfold encodeOf; rw [if_neg (by simp [h1]), if_neg (by simp [h2]), if_pos h3]
        rw [he]
        go_enter Tryd.func38, Tryd.ntmps38
        go_wp2_with fail
        refine (refIsSize_any _ _).mono ?_
        rintro e w' ⟨rfl, rfl⟩
        go_wp2_with fail
        refine (refAllowed_any A c l _ HLM.out HS.out).mono ?_
        rintro e w' ⟨rfl, rfl⟩
        go_wp2_with fail
        refine (refSize_any A c l _ hl HR.out HS.out).mono ?_
        rintro e w1 ⟨rfl, hb1⟩
        go_wp2
        go_ret2
        exact ⟨rfl, hb1⟩
      · have he : encodeOf size l = (ofL (whole size.toNat (content l) (fieldsOf l)), 0) := by unfold encodeOf; rw [if_neg (by simp [h1]), if_neg (by simp [h2]), if_neg h3]
        rw [he]
        have hn : size = (size.toNat : Int) ∧ size.toNat ≤ 512 := by
          rcases isSz_cases h1 with h | h | h <;> subst h <;> exact ⟨rfl, by decide⟩
        have HN := Lib.hid hn
        have hsum : 4 + (content l).length + (fieldsOf l).length ≤ size.toNat := by have := sizes l; omega
        have HSUM := Lib.hid hsum
        clear hsum he hn
        have HF1 : Hid (∀ w', StrsA w' A l → Calls Tryd.prog 98 #[.slice A l.length c] w' fun e w'' => e = .returned (.string (ofL (content l))) ∧ w'' = w') := fun w' h => join_any A c l w' hl HR.out h
        have HF2 : Hid (∀ w', StrsA w' A l → Calls Tryd.prog 99 #[.slice A l.length c] w' fun e w'' => e = .returned (.string (ofL (fieldsOf l))) ∧ Below w'.heap.size w' w'') := fun w' h => refFields_any A c l w' hl HR.out h
        have HF3 : Hid (∀ w', Calls Tryd.prog 97 #[.int .i64 size, .string (ofL (content l)), .string (ofL (fieldsOf l))] w' fun e w'' => e = .returned (.string (ofL (whole size.toNat (content l) (fieldsOf l)))) ∧ Below w'.heap.size w' w'') := fun w' => whole_at size.toNat size _ _ w' HN.out.1 (by have := HN.out.2; omega) HSUM.out
        go_enter Tryd.func38, Tryd.ntmps38
        go_wp2_with fail
        refine (refIsSize_any _ _).mono ?_
        rintro e w' ⟨rfl, rfl⟩
        go_wp2_with fail
        refine (refAllowed_any A c l _ HLM.out HS.out).mono ?_
        rintro e w' ⟨rfl, rfl⟩
        go_wp2_with fail
        refine (refSize_any A c l _ hl HR.out HS.out).mono ?_
        rintro e w1 ⟨rfl, hb1⟩
        go_wp2_with fail
        refine (HF1.out _ (HS.out.keep hb1)).mono ?_
        rintro e w2 ⟨rfl, rfl⟩
        go_wp2_with fail
        refine (HF2.out _ (HS.out.keep hb1)).mono ?_
        rintro e w3 ⟨rfl, hb3⟩
        go_wp2_with fail
        refine (HF3.out _).mono ?_
        rintro e w4 ⟨rfl, hb4⟩
        go_wp2
        go_ret2
        exact ⟨rfl, bstep (bstep hb1 hb3) hb4⟩
end Go.Proofs.YtnkhifgppcnmkaaDoor
