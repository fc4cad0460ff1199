/- The walks of the laws Bursts and Linear. -/
import Derived.Test.YtgjenjgiepheoaaLawB
namespace Go.Proofs.Ytgjenjgiepheoaa
open Go.RowKit Crc

theorem xorTo_get (l : List UInt8) (a : Nat) (m : List UInt8) (k j : Nat) :
    (xorTo l a m k)[j]? = (l[j]?).map fun x => if a ≤ j ∧ j < a + k then x ^^^ m.getD (j - a) 0 else x := by
  induction k with
  | zero =>
    rw [xorTo]
    cases l[j]? with
    | none => rfl
    | some x => simp; omega
  | succ k ih =>
    rw [xorTo, List.getElem?_set]
    by_cases hj : a + k = j
    · subst hj
      rw [if_pos rfl, xorTo_length]
      by_cases hl : a + k < l.length
      · rw [if_pos hl, List.getElem?_eq_getElem hl, Option.map_some, if_pos ⟨by omega, by omega⟩]
        rw [List.getD_eq_getElem?_getD, ih, List.getElem?_eq_getElem hl, Option.map_some, if_neg (by omega), show a + k - a = k by omega]
        rfl
      · rw [if_neg hl, List.getElem?_eq_none (by omega)]; rfl
    · rw [if_neg hj, ih]
      cases l[j]? with
      | none => rfl
      | some x =>
        simp only [Option.map_some]
        by_cases h : a ≤ j ∧ j < a + k
        · rw [if_pos h, if_pos ⟨h.1, by omega⟩]
        · rw [if_neg h, if_neg (by omega)]

theorem xorTo_zip (l m : List UInt8) (h : l.length = m.length) : xorTo l 0 m m.length = zipx l m := by
  apply List.ext_getElem?
  intro j
  rw [xorTo_get]
  unfold zipx
  rw [List.getElem?_zipWith]
  by_cases hj : j < l.length
  · have hm : j < m.length := by omega
    rw [List.getElem?_eq_getElem hj, List.getElem?_eq_getElem hm]
    simp only [Option.map_some]
    rw [if_pos ⟨by omega, by omega⟩]
    simp [List.getD, hm]
  · rw [List.getElem?_eq_none (by omega)]; rfl

theorem xorTo_burst (l : List UInt8) (i k : Nat) (a b c d : UInt8) (h : l.length = i + 4 + k) : xorTo l i [a, b, c, d] 4 = zipx l (burst i k a b c d) := by
  apply List.ext_getElem?
  intro j
  rw [xorTo_get]
  unfold zipx
  rw [List.getElem?_zipWith]
  by_cases hj : j < l.length
  · rw [List.getElem?_eq_getElem hj]
    simp only [Option.map_some]
    unfold burst
    by_cases h1 : j < i
    · rw [List.getElem?_append_left (by simpa using h1)]
      rw [if_neg (by omega)]
      simp [h1]
    · rw [List.getElem?_append_right (by simp; omega), List.length_replicate]
      by_cases h2 : j < i + 4
      · rw [List.getElem?_append_left (by simp; omega), if_pos ⟨by omega, h2⟩]
        obtain ⟨q, hq⟩ : ∃ q, q = j - i := ⟨_, rfl⟩
        rw [← hq]
        match q, (show q < 4 by omega) with
        | 0, _ => rfl
        | 1, _ => rfl
        | 2, _ => rfl
        | 3, _ => rfl
      · rw [List.getElem?_append_right (by simp; omega), if_neg (by omega)]
        have : j - i - 4 < k := by omega
        simp [this]
  · rw [List.getElem?_eq_none (by omega)]; rfl

theorem list_back (s : ByteArray) (n : Nat) (hn : s.size = n + 4) : ∃ a b c d, s.extract n (n + 4) = ⟨#[a, b, c, d]⟩ ∧ s.data.toList = s.data.toList.take n ++ [a, b, c, d] := by
  obtain ⟨a, b, c, d, h⟩ := four (s.extract n (n + 4)) (by rw [ByteArray.size_extract]; omega)
  refine ⟨a, b, c, d, h, ?_⟩
  have h1 := congrArg (fun x : ByteArray => x.data.toList) (split_at s n hn)
  rw [h] at h1
  simp only [ByteArray.data_append, Array.toList_append, data_front] at h1
  exact h1.symm

/-- A text is sealed exactly if its register is the residue. -/
theorem sealed_residue (s : ByteArray) (n : Nat) (hn : s.size = n + 4) : isSealed s n ↔ Crc.run (inv 0) s.data.toList = residue := by
  obtain ⟨a, b, c, d, h, hl⟩ := list_back s n hn
  unfold isSealed
  rw [h, numOf_four, sealed_iff, ← hl]

theorem bytesOf_list (n : Nat) : ∃ a b c d, (bytesOf n).data.toList = [a, b, c, d] ∧ num4 a b c d = numOf (bytesOf n) := ⟨_, _, _, _, rfl, rfl⟩

theorem ofList_size (l : List UInt8) : (ofList l).size = l.length := by simp [ofList, ByteArray.size]

/-- A burst is refused. -/
theorem burst_refused (s : ByteArray) (i x : Nat) (hi : i ≤ s.size) (hx : x < 4294967296) (h0 : x ≠ 0) :
    openOf (ofList (xorTo (sealOf s).data.toList i (bytesOf x).data.toList 4)) = (ByteArray.empty, 11) := by
  obtain ⟨a, b, c, d, hb, hn⟩ := bytesOf_list x
  rw [numOf_bytes x hx] at hn
  have hlen : (sealOf s).data.toList.length = i + 4 + (s.size - i) := by
    have := seal_size s
    rw [show (sealOf s).data.toList.length = (sealOf s).size by simp]
    omega
  have hsz : (ofList (xorTo (sealOf s).data.toList i (bytesOf x).data.toList 4)).size = s.size + 4 := by
    rw [ofList_size, xorTo_length, hlen]; omega
  refine openOf_bad hsz ?_
  rw [sealed_residue _ _ hsz]
  intro he
  have hs := (sealed_residue _ _ (seal_size s)).1 (seal_sealed s)
  rw [hb, show (ofList (xorTo (sealOf s).data.toList i [a, b, c, d] 4)).data.toList = xorTo (sealOf s).data.toList i [a, b, c, d] 4 from rfl, xorTo_burst _ _ _ _ _ _ _ hlen, ← hs] at he
  exact burst_turns _ _ _ _ _ _ _ hlen (by rw [hn]; exact h0) he

theorem xor_at (s m : ByteArray) (ai : Int) (a : Nat) (w : World) (hai : ai = a) (hs : s.size ≤ 1000) (hm : m.size ≤ 1000) (ha : a ≤ 1000) :
    Calls Try.prog 16 #[.string s, .int .i64 ai, .string m] w fun e w' => e = .returned (.string (ofList (xorTo s.data.toList a m.data.toList m.size))) ∧ Below w.heap.size w w' := by
  subst hai
  exact xor_any s m a w hs hm ha

set_option maxHeartbeats 1600000 in
theorem bursts_walk (s : ByteArray) (at_ x : Nat) (w : World) (hx : x < 4294967296) (ha : at_ < 65536) :
    Calls Try.prog 8 #[.string s, .int .u16 at_, .int .u32 x] w fun e w' => e = .returned (.bool true) ∧ Below w.heap.size w w' := by
  by_cases hl : s.size ≤ 500 ∧ x ≠ 0
  · obtain ⟨hl, h0⟩ := hl
    have hp : s.size ≤ 1000 := by omega
    have hz := seal_size s
    have hm : at_ % (s.size + 1) ≤ s.size := by have := Nat.mod_lt at_ (show 0 < s.size + 1 by omega); omega
    have HB := Lib.hid (burst_refused s (at_ % (s.size + 1)) x hm hx h0)
    have hzz : (sealOf s).size ≤ 1000 := by omega
    have hbs : (bytesOf x).size ≤ 1000 := by rw [bytesOf_size]; omega
    have hmm : at_ % (s.size + 1) ≤ 1000 := by omega
    have hus : (ofList (xorTo (sealOf s).data.toList (at_ % (s.size + 1)) (bytesOf x).data.toList 4)).size ≤ 900 := by
      rw [ofList_size, xorTo_length, show (sealOf s).data.toList.length = (sealOf s).size by simp]; omega
    have HZ := Lib.hid hzz
    have HS := Lib.hid hbs
    have HM := Lib.hid hmm
    have HU := Lib.hid hus
    clear hzz hbs hmm hus hm
    have hx0 : ((x : Int) == 0) = false := by simp only [beq_eq_false_iff_ne, ne_eq]; omega
    clear h0
    go_enter Try.func8, Try.ntmps8
    go_wp2_with fail
    refine (awake_any _).mono ?_
    rintro e w1 ⟨rfl, hb1⟩
    go_wp2_with fail
    refine (seal_any _ _ hp).mono ?_
    rintro e w2 ⟨rfl, hb2⟩
    go_wp2_with fail
    have hw : IntKind.i64.wrap ((s.size : Int) + 4 - 3) = (s.size : Int) + 1 := by rw [IntKind.wrap_i64]; omega
    have hnz : (((s.size : Int) + 1) == 0) = false := by simp only [beq_eq_false_iff_ne, ne_eq]; omega
    have htm : (at_ : Int).tmod ((s.size : Int) + 1) = ((at_ % (s.size + 1) : Nat) : Int) := by rw [Int.tmod_eq_emod_of_nonneg (by omega)]; rfl
    have hwm : IntKind.i64.wrap ((at_ % (s.size + 1) : Nat) : Int) = ((at_ % (s.size + 1) : Nat) : Int) := by have := HM.out; rw [IntKind.wrap_i64]; omega
    go_region_with (first | (go_at_call 18; refine (refBytes_any _ _ hx).mono ?_; rintro e w3 ⟨rfl, hb3⟩) | (go_at_call 16; refine (xor_at _ _ _ (at_ % (s.size + 1)) _ rfl HZ.out HS.out HM.out).mono ?_; rintro e w4 ⟨rfl, hb4⟩))
    all_goals
      clear hw hnz htm hwm
      go_wp2_with fail
      refine (open_any _ _ HU.out).mono ?_
      rintro e w5 ⟨rfl, hb5⟩
      rw [bytesOf_size, HB.out]
      go_wp2
      go_ret
      exact ⟨rfl, bstep (bstep (bstep (bstep hb1 hb2) ((Below.refl _ _).drew.trans hb3)) hb4) hb5⟩
  · have hcase : (500 < s.size) ∨ (s.size ≤ 500 ∧ ((x : Int) == 0) = true) := by
      rcases Nat.lt_or_ge 500 s.size with h | h
      · exact .inl h
      · refine .inr ⟨h, ?_⟩
        simp only [beq_iff_eq]
        omega
    clear hl
    rcases hcase with h | ⟨h, h0⟩
    all_goals
      go_enter Try.func8, Try.ntmps8
      go_wp2_with fail
      refine (awake_any _).mono ?_
      rintro e w1 ⟨rfl, hb1⟩
      go_wp2_with fail
      refine (awake_any _).mono ?_
      rintro e w2 ⟨rfl, hb2⟩
      go_wp2
      go_ret
      exact ⟨rfl, bstep hb1 hb2⟩

theorem bursts_row (a0 : ByteArray) (a1 a2 : Int) (w : World) (_w0 : a0.size ≤ maxLen) (w1 : (Lit.int .u16 a1).wf = true) (w2 : (Lit.int .u32 a2).wf = true) :
    Calls Try.prog 8 #[.string a0, .int .u16 a1, .int .u32 a2] w fun e w' => e = .returned (.bool true) ∧ Below w.heap.size w w' := by
  obtain ⟨n, rfl, hn⟩ := nat_u32 w2
  have hb := bounds_u16 w1
  obtain ⟨m, rfl, hm⟩ : ∃ m : Nat, a1 = m ∧ m < 65536 := ⟨a1.toNat, by omega, by omega⟩
  exact bursts_walk a0 m n w hn hm

end Go.Proofs.Ytgjenjgiepheoaa
