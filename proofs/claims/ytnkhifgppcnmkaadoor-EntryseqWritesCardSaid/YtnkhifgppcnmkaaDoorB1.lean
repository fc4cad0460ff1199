/- Walks of chapter 17: sizes, pages. -/
import Derived.Test.YtnkhifgppcnmkaaDoorA2
import Derived.Test.YtnkhifgppcnmkaaDoorA1
import Derived.WalkLawsBesides
import Derived.Deep.OwnRows
import Derived.Lib.BufferWrite

/- Walks of the small functions of interval and of its reference. -/
namespace Go.Proofs.YtnkhifgppcnmkaaDoor
open Go.RowKit Iv

set_option maxHeartbeats 400000 in
theorem isSize_any (n : Int) (w : World) :
    Calls Tryd.prog 81 #[.int .i64 n] w fun e w' => e = .returned (.bool (isSz n)) ∧ w = w' := by
  go_enter Tryd.func81, Tryd.ntmps81
  go_wp2
  all_goals
    go_ret
    exact ⟨ret_bool (by unfold isSz; simp_all), rfl⟩

set_option maxHeartbeats 400000 in
theorem refIsSize_any (n : Int) (w : World) :
    Calls Tryd.prog 85 #[.int .i64 n] w fun e w' => e = .returned (.bool (isSz n)) ∧ w = w' := by
  go_enter Tryd.func85, Tryd.ntmps85
  go_wp2
  all_goals
    go_ret
    exact ⟨ret_bool (by unfold isSz; simp_all), rfl⟩

theorem okRec_take (l : List ByteArray) (k : Nat) (h : k < l.length) (ho : okRec (l.take k) = true) (h1 : 1 ≤ (l[k].size : Int)) (h2 : (l[k].size : Int) ≤ 200) : okRec (l.take (k + 1)) = true := by
  rw [okRec_iff] at ho ⊢
  rw [List.take_succ_eq_append_getElem h]
  intro s hs
  rcases List.mem_append.1 hs with hs | hs
  · exact ho s hs
  · simp only [List.mem_singleton] at hs
    subst hs
    omega

theorem okRec_bad (l : List ByteArray) (k : Nat) (h : k < l.length) (hb : (l[k].size : Int) < 1 ∨ 200 < (l[k].size : Int)) : okRec l = false := by
  cases ho : okRec l with
  | false => rfl
  | true =>
    have := (okRec_iff l).1 ho l[k] (List.getElem_mem h)
    omega

set_option maxHeartbeats 800000 in
theorem allowed_any (A : Option Addr) (c : Nat) (l : List ByteArray) (w : World) (hl : l.length ≤ maxLen) (hs : StrsA w A l) :
    Calls Tryd.prog 89 #[.slice A l.length c] w fun e w' => e = .returned (.bool (okRec l)) ∧ w = w' := by
  unfold maxLen at hl
  go_enter Tryd.func89, Tryd.ntmps89
  go_wp2
  go_loop [7] (fun i => ∃ k : Nat, k ≤ l.length ∧ i = .int .i64 k ∧ okRec (l.take k) = true) (fun i => l.length - (intOf i).toNat)
  case atStart => exact ⟨0, by omega, rfl, rfl⟩
  case round =>
    obtain ⟨k, hk, rfl, hok⟩ := hrel
    by_cases hlt : k < l.length
    · obtain ⟨b, o, rfl, hb, hc⟩ := hs (by omega)
      have hck := hc k hlt
      have HO := Lib.hid hok
      clear hc hok
      by_cases hgood : 1 ≤ (l[k].size : Int) ∧ (l[k].size : Int) ≤ 200
      · obtain ⟨h1, h2⟩ := hgood
        have HT := Lib.hid (okRec_take l k hlt HO.out h1 h2)
        go_wp2
        refine ⟨⟨k + 1, by omega, by go_num, HT.out⟩, by simp [intOf]; omega⟩
      · have hbad : (l[k].size : Int) < 1 ∨ 200 < (l[k].size : Int) := by omega
        have HB := Lib.hid (okRec_bad l k hlt hbad)
        clear hgood
        rcases hbad with h | h
        all_goals
          go_wp2
          go_ret
          exact ⟨ret_bool HB.out.symm, rfl⟩
    · go_wp2
      go_ret
      refine ⟨ret_bool ?_, rfl⟩
      rw [List.take_of_length_le (by omega)] at hok
      exact hok.symm

set_option maxHeartbeats 800000 in
theorem refAllowed_any (A : Option Addr) (c : Nat) (l : List ByteArray) (w : World) (hl : l.length ≤ maxLen) (hs : StrsA w A l) :
    Calls Tryd.prog 96 #[.slice A l.length c] w fun e w' => e = .returned (.bool (okRec l)) ∧ w = w' := by
  unfold maxLen at hl
  go_enter Tryd.func96, Tryd.ntmps96
  go_wp2
  go_loop [3] (fun i => ∃ k : Nat, k ≤ l.length ∧ i = .int .i64 k ∧ okRec (l.take k) = true) (fun i => l.length - (intOf i).toNat)
  case atStart => exact ⟨0, by omega, rfl, rfl⟩
  case round =>
    obtain ⟨k, hk, rfl, hok⟩ := hrel
    by_cases hlt : k < l.length
    · obtain ⟨b, o, rfl, hb, hc⟩ := hs (by omega)
      have hck := hc k hlt
      have HO := Lib.hid hok
      clear hc hok
      by_cases hgood : 1 ≤ (l[k].size : Int) ∧ (l[k].size : Int) ≤ 200
      · obtain ⟨h1, h2⟩ := hgood
        have HT := Lib.hid (okRec_take l k hlt HO.out h1 h2)
        go_wp2
        refine ⟨⟨k + 1, by omega, by go_num, HT.out⟩, by simp [intOf]; omega⟩
      · have hbad : (l[k].size : Int) < 1 ∨ 200 < (l[k].size : Int) := by omega
        have HB := Lib.hid (okRec_bad l k hlt hbad)
        clear hgood
        rcases hbad with h | h
        all_goals
          go_wp2
          go_ret
          exact ⟨ret_bool HB.out.symm, rfl⟩
    · go_wp2
      go_ret
      refine ⟨ret_bool ?_, rfl⟩
      rw [List.take_of_length_le (by omega)] at hok
      exact hok.symm

/-- How many slots fit. -/
def slotCount (size len : Int) : Int := if isSz size = true ∧ 1 ≤ len ∧ len ≤ 200 ∧ len ≤ size - 7 then (size - 4) / (len + 3) else 0

set_option maxHeartbeats 800000 in
theorem slotCount_any (size len : Int) (w : World) :
    Calls Tryd.prog 48 #[.int .i64 size, .int .i64 len] w fun e w' => e = .returned (.int .i64 (slotCount size len)) ∧ w = w' := by
  cases hz : isSz size with
  | false =>
    have hc : slotCount size len = 0 := by unfold slotCount; rw [if_neg]; simp [hz]
    rw [hc]
    go_enter Tryd.func48, Tryd.ntmps48
    go_wp2_with fail
    refine (isSize_any _ _).mono ?_
    rintro e w' ⟨rfl, rfl⟩
    go_wp2
    go_ret
    exact ⟨rfl, rfl⟩
  | true =>
    rcases isSz_cases hz with rfl | rfl | rfl
    · have hb : (1 ≤ len ∧ len ≤ 121) ∨ len < 1 ∨ (1 ≤ len ∧ 121 < len) := by omega
      rcases hb with ⟨h1, h2⟩ | h1 | ⟨h1, h2⟩
      · have hc : slotCount 128 len = 124 / (len + 3) := by unfold slotCount; rw [if_pos ⟨hz, by omega, by omega, by omega⟩]; rfl
        rw [hc]
        go_enter Tryd.func48, Tryd.ntmps48
        go_wp2_with fail
        refine (isSize_any _ _).mono ?_
        rintro e w' ⟨rfl, rfl⟩
        go_wp2
        go_ret
        exact ⟨rfl, rfl⟩
      · have hc : slotCount 128 len = 0 := by unfold slotCount; rw [if_neg]; omega
        rw [hc]
        go_enter Tryd.func48, Tryd.ntmps48
        go_wp2_with fail
        refine (isSize_any _ _).mono ?_
        rintro e w' ⟨rfl, rfl⟩
        go_wp2
        go_ret
        exact ⟨rfl, rfl⟩
      · have hc : slotCount 128 len = 0 := by unfold slotCount; rw [if_neg]; omega
        rw [hc]
        go_enter Tryd.func48, Tryd.ntmps48
        go_wp2_with fail
        refine (isSize_any _ _).mono ?_
        rintro e w' ⟨rfl, rfl⟩
        go_wp2
        go_ret
        exact ⟨rfl, rfl⟩
    · have hb : (1 ≤ len ∧ len ≤ 200) ∨ len < 1 ∨ (1 ≤ len ∧ 200 < len) := by omega
      rcases hb with ⟨h1, h2⟩ | h1 | ⟨h1, h2⟩
      · have hc : slotCount 256 len = 252 / (len + 3) := by unfold slotCount; rw [if_pos ⟨hz, by omega, by omega, by omega⟩]; rfl
        rw [hc]
        go_enter Tryd.func48, Tryd.ntmps48
        go_wp2_with fail
        refine (isSize_any _ _).mono ?_
        rintro e w' ⟨rfl, rfl⟩
        go_wp2
        go_ret
        exact ⟨rfl, rfl⟩
      · have hc : slotCount 256 len = 0 := by unfold slotCount; rw [if_neg]; omega
        rw [hc]
        go_enter Tryd.func48, Tryd.ntmps48
        go_wp2_with fail
        refine (isSize_any _ _).mono ?_
        rintro e w' ⟨rfl, rfl⟩
        go_wp2
        go_ret
        exact ⟨rfl, rfl⟩
      · have hc : slotCount 256 len = 0 := by unfold slotCount; rw [if_neg]; omega
        rw [hc]
        go_enter Tryd.func48, Tryd.ntmps48
        go_wp2_with fail
        refine (isSize_any _ _).mono ?_
        rintro e w' ⟨rfl, rfl⟩
        go_wp2
        go_ret
        exact ⟨rfl, rfl⟩
    · have hb : (1 ≤ len ∧ len ≤ 200) ∨ len < 1 ∨ (1 ≤ len ∧ 200 < len) := by omega
      rcases hb with ⟨h1, h2⟩ | h1 | ⟨h1, h2⟩
      · have hc : slotCount 512 len = 508 / (len + 3) := by unfold slotCount; rw [if_pos ⟨hz, by omega, by omega, by omega⟩]; rfl
        rw [hc]
        go_enter Tryd.func48, Tryd.ntmps48
        go_wp2_with fail
        refine (isSize_any _ _).mono ?_
        rintro e w' ⟨rfl, rfl⟩
        go_wp2
        go_ret
        exact ⟨rfl, rfl⟩
      · have hc : slotCount 512 len = 0 := by unfold slotCount; rw [if_neg]; omega
        rw [hc]
        go_enter Tryd.func48, Tryd.ntmps48
        go_wp2_with fail
        refine (isSize_any _ _).mono ?_
        rintro e w' ⟨rfl, rfl⟩
        go_wp2
        go_ret
        exact ⟨rfl, rfl⟩
      · have hc : slotCount 512 len = 0 := by unfold slotCount; rw [if_neg]; omega
        rw [hc]
        go_enter Tryd.func48, Tryd.ntmps48
        go_wp2_with fail
        refine (isSize_any _ _).mono ?_
        rintro e w' ⟨rfl, rfl⟩
        go_wp2
        go_ret
        exact ⟨rfl, rfl⟩

def lenOk (size len : Int) : Bool := isSz size && (decide (1 ≤ len) && decide (len ≤ 200) && decide (len ≤ size - 7))

set_option maxHeartbeats 800000 in
theorem isLength_any (size len : Int) (w : World) :
    Calls Tryd.prog 102 #[.int .i64 size, .int .i64 len] w fun e w' => e = .returned (.bool (lenOk size len)) ∧ w = w' := by
  cases hz : isSz size with
  | false =>
    have hc : lenOk size len = false := by unfold lenOk; rw [hz]; rfl
    rw [hc]
    go_enter Tryd.func102, Tryd.ntmps102
    go_wp2_with fail
    refine (refIsSize_any _ _).mono ?_
    rintro e w' ⟨rfl, rfl⟩
    go_wp2
    go_ret
    exact ⟨rfl, rfl⟩
  | true =>
    rcases isSz_cases hz with rfl | rfl | rfl
    · have hb : (1 ≤ len ∧ len ≤ 121) ∨ len < 1 ∨ (1 ≤ len ∧ 121 < len) := by omega
      rcases hb with ⟨h1, h2⟩ | h1 | ⟨h1, h2⟩
      · have hc : lenOk 128 len = true := by unfold lenOk; rw [hz]; simp; omega
        rw [hc]
        go_enter Tryd.func102, Tryd.ntmps102
        go_wp2_with fail
        refine (refIsSize_any _ _).mono ?_
        rintro e w' ⟨rfl, rfl⟩
        go_wp2
        all_goals (go_ret; first | exact ⟨rfl, rfl⟩ | exact ⟨ret_bool (by simp; omega), rfl⟩)
      · have hc : lenOk 128 len = false := by unfold lenOk; rw [hz]; simp; omega
        rw [hc]
        go_enter Tryd.func102, Tryd.ntmps102
        go_wp2_with fail
        refine (refIsSize_any _ _).mono ?_
        rintro e w' ⟨rfl, rfl⟩
        go_wp2
        all_goals (go_ret; first | exact ⟨rfl, rfl⟩ | exact ⟨ret_bool (by simp; omega), rfl⟩)
      · have hc : lenOk 128 len = false := by unfold lenOk; rw [hz]; simp; omega
        rw [hc]
        go_enter Tryd.func102, Tryd.ntmps102
        go_wp2_with fail
        refine (refIsSize_any _ _).mono ?_
        rintro e w' ⟨rfl, rfl⟩
        go_wp2
        all_goals (go_ret; first | exact ⟨rfl, rfl⟩ | exact ⟨ret_bool (by simp; omega), rfl⟩)
    · have hb : (1 ≤ len ∧ len ≤ 200) ∨ len < 1 ∨ (1 ≤ len ∧ 200 < len) := by omega
      rcases hb with ⟨h1, h2⟩ | h1 | ⟨h1, h2⟩
      · have hc : lenOk 256 len = true := by unfold lenOk; rw [hz]; simp; omega
        rw [hc]
        go_enter Tryd.func102, Tryd.ntmps102
        go_wp2_with fail
        refine (refIsSize_any _ _).mono ?_
        rintro e w' ⟨rfl, rfl⟩
        go_wp2
        all_goals (go_ret; first | exact ⟨rfl, rfl⟩ | exact ⟨ret_bool (by simp; omega), rfl⟩)
      · have hc : lenOk 256 len = false := by unfold lenOk; rw [hz]; simp; omega
        rw [hc]
        go_enter Tryd.func102, Tryd.ntmps102
        go_wp2_with fail
        refine (refIsSize_any _ _).mono ?_
        rintro e w' ⟨rfl, rfl⟩
        go_wp2
        all_goals (go_ret; first | exact ⟨rfl, rfl⟩ | exact ⟨ret_bool (by simp; omega), rfl⟩)
      · have hc : lenOk 256 len = false := by unfold lenOk; rw [hz]; simp; omega
        rw [hc]
        go_enter Tryd.func102, Tryd.ntmps102
        go_wp2_with fail
        refine (refIsSize_any _ _).mono ?_
        rintro e w' ⟨rfl, rfl⟩
        go_wp2
        all_goals (go_ret; first | exact ⟨rfl, rfl⟩ | exact ⟨ret_bool (by simp; omega), rfl⟩)
    · have hb : (1 ≤ len ∧ len ≤ 200) ∨ len < 1 ∨ (1 ≤ len ∧ 200 < len) := by omega
      rcases hb with ⟨h1, h2⟩ | h1 | ⟨h1, h2⟩
      · have hc : lenOk 512 len = true := by unfold lenOk; rw [hz]; simp; omega
        rw [hc]
        go_enter Tryd.func102, Tryd.ntmps102
        go_wp2_with fail
        refine (refIsSize_any _ _).mono ?_
        rintro e w' ⟨rfl, rfl⟩
        go_wp2
        all_goals (go_ret; first | exact ⟨rfl, rfl⟩ | exact ⟨ret_bool (by simp; omega), rfl⟩)
      · have hc : lenOk 512 len = false := by unfold lenOk; rw [hz]; simp; omega
        rw [hc]
        go_enter Tryd.func102, Tryd.ntmps102
        go_wp2_with fail
        refine (refIsSize_any _ _).mono ?_
        rintro e w' ⟨rfl, rfl⟩
        go_wp2
        all_goals (go_ret; first | exact ⟨rfl, rfl⟩ | exact ⟨ret_bool (by simp; omega), rfl⟩)
      · have hc : lenOk 512 len = false := by unfold lenOk; rw [hz]; simp; omega
        rw [hc]
        go_enter Tryd.func102, Tryd.ntmps102
        go_wp2_with fail
        refine (refIsSize_any _ _).mono ?_
        rintro e w' ⟨rfl, rfl⟩
        go_wp2
        all_goals (go_ret; first | exact ⟨rfl, rfl⟩ | exact ⟨ret_bool (by simp; omega), rfl⟩)

theorem slot_len (size len : Int) : slotCount size len = if lenOk size len = true then (size - 4) / (len + 3) else 0 := by
  unfold slotCount lenOk
  simp only [Bool.and_eq_true, decide_eq_true_eq, and_assoc]

set_option maxHeartbeats 800000 in
theorem refSlotCount_any (size len : Int) (w : World) :
    Calls Tryd.prog 49 #[.int .i64 size, .int .i64 len] w fun e w' => e = .returned (.int .i64 (slotCount size len)) ∧ w = w' := by
  rw [slot_len]
  cases hz : lenOk size len with
  | false =>
    go_enter Tryd.func49, Tryd.ntmps49
    go_wp2_with fail
    refine (isLength_any _ _ _).mono ?_
    rintro e w' ⟨rfl, rfl⟩
    go_wp2
    go_ret
    exact ⟨rfl, rfl⟩
  | true =>
    have hb : 1 ≤ len ∧ len ≤ 200 ∧ 128 ≤ size ∧ size ≤ 512 := by
      unfold lenOk at hz
      simp only [Bool.and_eq_true, decide_eq_true_eq] at hz
      have := isSz_cases hz.1
      omega
    obtain ⟨b1, b2, b3, b4⟩ := hb
    go_enter Tryd.func49, Tryd.ntmps49
    go_wp2_with fail
    refine (isLength_any _ _ _).mono ?_
    rintro e w' ⟨rfl, rfl⟩
    go_wp2
    go_ret
    exact ⟨rfl, rfl⟩
end Go.Proofs.YtnkhifgppcnmkaaDoor

/- Walks: numbers in two bytes, Trim, Unused, zeros, check. -/
namespace Go.Proofs.YtnkhifgppcnmkaaDoor
open Go.RowKit Iv

theorem byteAt_get (d : ByteArray) (i : Nat) (h : i < d.size) : (d[i]).toNat = byteAt d i := by
  have h1 : i < d.data.toList.length := by simpa using h
  unfold byteAt
  rw [List.getD_eq_getElem?_getD, List.getElem?_eq_getElem h1]
  rfl

theorem two_or (a b : Nat) (ha : a < 256) (hb : b < 256) : bits .or .i64 (a : Int) ((b : Int) * 256) = ((a + 256 * b : Nat) : Int) := by
  have hk : ∀ n : Int, 0 ≤ n → n < 2 ^ 63 → IntKind.i64.wrap n = n := fun n h h' => by rw [IntKind.wrap_i64]; omega
  have h := (bits_nat .i64 63 (by decide) hk a (256 * b) (by omega) (by omega)).2
  rw [show (b : Int) * 256 = ((256 * b : Nat) : Int) by omega, h, Nat.or_comm, nat_join 8 (256 * b) a (by omega) (by omega)]
  congr 1
  omega

theorem two_val (d : ByteArray) (i : Nat) (h : i < d.size) (h' : i + 1 < d.size) :
    bits .or .i64 (wrap64 ((d[i]).toNat : Int)) (wrap64 (wrap64 ((d[i + 1]).toNat : Int) * 256)) = ((twoOf d i : Nat) : Int) := by
  have ha := (d[i]).toNat_lt
  have hb := (d[i + 1]).toNat_lt
  have e1 : wrap64 ((d[i]).toNat : Int) = ((d[i]).toNat : Int) := by unfold wrap64; omega
  have e2 : wrap64 (wrap64 ((d[i + 1]).toNat : Int) * 256) = ((d[i + 1]).toNat : Int) * 256 := by unfold wrap64; omega
  rw [e1, e2, two_or _ _ ha hb, byteAt_get, byteAt_get]
  rfl

theorem num_val (d : ByteArray) (i : Nat) (h : i < d.size) (h' : i + 1 < d.size) :
    wrap64 (wrap64 ((d[i]).toNat : Int) + wrap64 (256 * wrap64 ((d[i + 1]).toNat : Int))) = ((twoOf d i : Nat) : Int) := by
  have ha := (d[i]).toNat_lt
  have hb := (d[i + 1]).toNat_lt
  unfold twoOf
  rw [← byteAt_get d i h, ← byteAt_get d (i + 1) h']
  unfold wrap64
  omega

set_option maxHeartbeats 800000 in
theorem twoAt_any (d : ByteArray) (i : Nat) (w : World) (h : i + 1 < d.size) (hd : d.size ≤ maxLen) :
    Calls Tryd.prog 83 #[.string d, .int .i64 i] w fun e w' => e = .returned (.int .i64 (twoOf d i : Nat)) ∧ Below w.heap.size w w' := by
  unfold maxLen at hd
  have q0 : ((i : Int) < (d.size : Int)) = True := eq_true (by omega)
  have q1 : ((i : Int) + 1 < (d.size : Int)) = True := eq_true (by omega)
  have q2 : (0 : Int) ≤ (i : Int) + 1 := by omega
  have q3 : ((i : Int) + 1).toNat = i + 1 := by omega
  have q4 : IntKind.i64.wrap ((i : Int) + 1) = (i : Int) + 1 := by rw [IntKind.wrap_i64]; omega
  go_enter Tryd.func83, Tryd.ntmps83
  go_wp2
  go_quiet (fail)
  go_wp2
  go_ret
  exact ⟨ret_int (two_val d i (by omega) h), below_drewN (Below.refl _ _) _⟩

set_option maxHeartbeats 800000 in
theorem number_any (d : ByteArray) (i : Nat) (w : World) (h : i + 1 < d.size) (hd : d.size ≤ maxLen) :
    Calls Tryd.prog 128 #[.string d, .int .i64 i] w fun e w' => e = .returned (.int .i64 (twoOf d i : Nat)) ∧ Below w.heap.size w w' := by
  unfold maxLen at hd
  have q0 : ((i : Int) < (d.size : Int)) = True := eq_true (by omega)
  have q1 : ((i : Int) + 1 < (d.size : Int)) = True := eq_true (by omega)
  have q2 : (0 : Int) ≤ (i : Int) + 1 := by omega
  have q3 : ((i : Int) + 1).toNat = i + 1 := by omega
  have q4 : IntKind.i64.wrap ((i : Int) + 1) = (i : Int) + 1 := by rw [IntKind.wrap_i64]; omega
  go_enter Tryd.func128, Tryd.ntmps128
  go_wp2
  go_quiet (fail)
  go_wp2
  go_ret
  exact ⟨ret_int (num_val d i (by omega) h), below_drewN (Below.refl _ _) _⟩

/-- The text behind trimRight: the zeros at the end are gone. -/
def TrimmedR (d : ByteArray) (w : World) (e : Ending) (w' : World) : Prop :=
  ∃ (r : ByteArray) (m : Nat), e = .returned (.string r) ∧ r.size ≤ d.size ∧ d.data.toList = r.data.toList ++ List.replicate m 0 ∧ (r.size = 0 ∨ byteAt r (r.size - 1) ≠ 0) ∧ w = w'

theorem front_cut (r : ByteArray) (q : Nat) (h : r.size = q + 1) (hz : byteAt r q = 0) : r.data.toList = (r.extract 0 q).data.toList ++ [0] := by
  have hl : r.data.toList.length = q + 1 := by simpa using h
  have h1 : q < r.data.toList.length := by omega
  have e : r.data.toList.take (q + 1) = r.data.toList.take q ++ [r.data.toList[q]] := List.take_succ_eq_append_getElem h1
  rw [List.take_of_length_le (by omega)] at e
  have hb : r.data.toList[q] = 0 := by
    unfold byteAt at hz
    rw [List.getD_eq_getElem?_getD, List.getElem?_eq_getElem h1] at hz
    exact UInt8.toNat_inj.1 hz
  rw [hb] at e
  rw [show (r.extract 0 q).data.toList = r.data.toList.take q by simp]
  exact e

set_option maxHeartbeats 800000 in
theorem trimRight_any (d : ByteArray) (w : World) (hd : d.size ≤ maxLen) :
    Calls Tryd.prog 130 #[.string d, .int .u8 0] w (TrimmedR d w) := by
  unfold maxLen at hd
  go_enter Tryd.func130, Tryd.ntmps130
  go_wp2
  go_loop [0] (fun x => ∃ (r : ByteArray) (m : Nat), x = .string r ∧ r.size ≤ d.size ∧ d.data.toList = r.data.toList ++ List.replicate m 0) (fun x => match x with | .string r => r.size | _ => 0)
  case atStart => exact ⟨d, 0, rfl, Nat.le_refl _, by simp⟩
  case round =>
    obtain ⟨r, m, rfl, hr, he⟩ := hrel
    have HE := Lib.hid he
    clear he
    by_cases h0 : r.size = 0
    · go_wp2
      go_ret
      exact ⟨r, m, rfl, hr, HE.out, .inl h0, rfl⟩
    · obtain ⟨q, hq⟩ : ∃ q, r.size = q + 1 := ⟨r.size - 1, by omega⟩
      clear h0
      have hq' : q < r.size := by omega
      have HB := Lib.hid (byteAt_get r q hq')
      have HC := Lib.hid (front_cut r q hq)
      have HX : Hid ((r.extract 0 q).size = q) := by show _ = _; rw [ByteArray.size_extract]; omega
      go_wp2
      · have h : ((r[q].toNat : Int) == 0) = true := by assumption
        have hz : byteAt r q = 0 := by rw [← HB.out]; simpa using h
        refine ⟨⟨r.extract 0 q, m + 1, rfl, ?_, ?_⟩, ?_⟩
        · rw [HX.out]; omega
        · rw [HE.out, HC.out hz, List.append_assoc, List.replicate_succ]; rfl
        · show (r.extract 0 q).size < r.size
          rw [HX.out]; omega
      · have h : ((r[q].toNat : Int) == 0) = false := by assumption
        have hz : byteAt r q ≠ 0 := by rw [← HB.out]; simpa using h
        go_ret
        exact ⟨r, m, rfl, hr, HE.out, .inr (by rw [hq]; exact hz), rfl⟩

/-- The text behind trimLeft: the zeros at the begin are gone. -/
def TrimmedL (d : ByteArray) (w : World) (e : Ending) (w' : World) : Prop :=
  ∃ (r : ByteArray) (m : Nat), e = .returned (.string r) ∧ d.data.toList = List.replicate m 0 ++ r.data.toList ∧ w = w'

theorem back_cut (r : ByteArray) (h : 0 < r.size) (hz : byteAt r 0 = 0) : r.data.toList = 0 :: (r.extract 1 r.size).data.toList := by
  have hl : r.data.toList.length = r.size := by simp
  have e1 : (r.extract 1 r.size).data.toList = r.data.toList.drop 1 := by
    simp only [ByteArray.data_extract, Array.toList_extract]
    rw [List.extract_eq_take_drop, List.take_of_length_le (by rw [List.length_drop]; omega)]
  rw [e1]
  unfold byteAt at hz
  cases hx : r.data.toList with
  | nil => rw [hx] at hl; simp at hl; omega
  | cons c t =>
    rw [hx] at hz
    have : c = 0 := UInt8.toNat_inj.1 hz
    rw [this]
    rfl

set_option maxHeartbeats 800000 in
theorem trimLeft_any (d : ByteArray) (w : World) :
    Calls Tryd.prog 129 #[.string d, .int .u8 0] w (TrimmedL d w) := by
  go_enter Tryd.func129, Tryd.ntmps129
  go_wp2
  go_loop [0] (fun x => ∃ (r : ByteArray) (m : Nat), x = .string r ∧ r.size ≤ d.size ∧ d.data.toList = List.replicate m 0 ++ r.data.toList) (fun x => match x with | .string r => r.size | _ => 0)
  case atStart => exact ⟨d, 0, rfl, Nat.le_refl _, by simp⟩
  case round =>
    obtain ⟨r, m, rfl, hr, he⟩ := hrel
    have HE := Lib.hid he
    clear he
    by_cases h0 : r.size = 0
    · go_wp2
      go_ret
      exact ⟨r, m, rfl, HE.out, rfl⟩
    · have hp : 0 < r.size := by omega
      clear h0
      have HB := Lib.hid (byteAt_get r 0 hp)
      have HC := Lib.hid (back_cut r hp)
      have HX : Hid ((r.extract 1 r.size).size = r.size - 1) := by show _ = _; rw [ByteArray.size_extract]; omega
      have q0 : (0 < r.size) = True := eq_true hp
      go_wp2
      · have h : ((r[0].toNat : Int) == 0) = true := by assumption
        have hz : byteAt r 0 = 0 := by rw [← HB.out]; simpa using h
        refine ⟨⟨r.extract 1 r.size, m + 1, rfl, ?_, ?_⟩, ?_⟩
        · rw [HX.out]; omega
        · rw [HE.out, HC.out hz, List.replicate_succ']; simp
        · show (r.extract 1 r.size).size < r.size
          rw [HX.out]; omega
      · go_ret
        exact ⟨r, m, rfl, HE.out, rfl⟩

/-- What Trim leaves of zeros at both ends is empty exactly if all was zero. -/
def Trimmed (d : ByteArray) (w : World) (e : Ending) (w' : World) : Prop :=
  ∃ r : ByteArray, e = .returned (.string r) ∧ (r.toList.isEmpty = unusedOf d) ∧ Below w.heap.size w w'

theorem isEmpty_iff (s : ByteArray) : s.toList.isEmpty = s.data.toList.isEmpty := by rw [ByteArray.toList_eq]

theorem trim_all {d r t : ByteArray} {m k : Nat} (h1 : d.data.toList = r.data.toList ++ List.replicate m 0) (h2 : r.size = 0 ∨ byteAt r (r.size - 1) ≠ 0) (h3 : r.data.toList = List.replicate k 0 ++ t.data.toList) :
    t.toList.isEmpty = unusedOf d := by
  rw [isEmpty_iff]
  unfold unusedOf
  rw [h1, h3]
  cases ht : t.data.toList with
  | nil => simp
  | cons c x =>
    have hne : r.size ≠ 0 := by
      have e : r.data.toList.length = r.size := by simp
      rw [h3, ht] at e
      simp at e
      omega
    rcases h2 with h2 | h2
    · exact absurd h2 hne
    · symm
      simp only [List.isEmpty_cons]
      rw [Bool.eq_false_iff]
      intro hall
      rw [List.all_eq_true] at hall
      apply h2
      have e : r.data.toList.length = r.size := by simp
      have hlt : r.size - 1 < r.data.toList.length := by omega
      unfold byteAt
      rw [List.getD_eq_getElem?_getD, List.getElem?_eq_getElem hlt]
      have hm : ∀ y ∈ r.data.toList, y = 0 := fun y hy => by
        rw [h3, ht] at hy
        have := hall y (List.mem_append.2 (.inl hy))
        simpa using this
      rw [hm _ (List.getElem_mem hlt)]
      rfl

theorem one_zero : (ByteArray.mk #[0]).size = 1 := rfl

set_option maxHeartbeats 1600000 in
set_option maxRecDepth 100000 in
theorem trim_any (d : ByteArray) (w : World) (hd : d.size ≤ maxLen) :
    Calls Tryd.prog 87 #[.string d, .string { data := #[0] }] w (Trimmed d w) := by
  by_cases h0 : d.toList.isEmpty = true
  · go_enter Tryd.func87, Tryd.ntmps87
    go_wp2
    go_ret
    refine ⟨d, rfl, ?_, Below.refl _ _⟩
    rw [h0]
    rw [isEmpty_iff] at h0
    unfold unusedOf
    rw [List.isEmpty_iff.1 h0]
    rfl
  · have h0' : d.toList.isEmpty = false := by simpa using h0
    clear h0
    have HD := Lib.hid hd
    clear hd
    have hz0 : (({ data := #[0] } : ByteArray)[0]).toNat = 0 := rfl
    go_enter Tryd.func87, Tryd.ntmps87
    go_wp2
    go_region_held3 (fun _ => True) (trivial) (first | (go_at_call 130; refine (trimRight_any _ _ HD.out).mono ?_; rintro e w1 ⟨r, m, rfl, hr, hx, hy, rfl⟩; have HX := Lib.hid hx; have HY := Lib.hid hy; clear hx hy) | (go_at_call 129; refine (trimLeft_any _ _).mono ?_; rintro e w1 ⟨t, k, rfl, ht, rfl⟩; have HT := Lib.hid ht; clear ht))
    all_goals
      go_wp2
      go_ret
      exact ⟨t, rfl, trim_all HX.out HY.out HT.out, (Below.refl _ _).drew⟩

set_option maxHeartbeats 800000 in
theorem unused_any (d : ByteArray) (w : World) (hd : d.size ≤ maxLen) :
    Calls Tryd.prog 34 #[.string d] w fun e w' => e = .returned (.bool (unusedOf d)) ∧ Below w.heap.size w w' := by
  go_enter Tryd.func34, Tryd.ntmps34
  go_wp2_with fail
  refine (trim_any _ _ hd).mono ?_
  rintro e w1 ⟨r, rfl, hr, hb⟩
  go_wp2
  go_ret
  exact ⟨rfl, hb⟩

theorem info5 : (Tryd.prog.info? 5).map (fun i => (i.zero, i.size, i.bytes)) = some (some (.int .u8 0), 1, 1) := by kernel_rfl

set_option maxRecDepth 100000 in
/-- '[]byte' made into a string. -/
theorem conv_bytes (w : World) (b o cap : Nat) (l : List UInt8) (h : ∀ i, i < l.length → w.cell? ⟨b, o + i, none⟩ = some (.int .u8 ((l.getD i 0).toNat : Nat))) :
    (convert 57 9 (.slice (some ⟨b, o, none⟩) l.length cap)).run Tryd.prog w = .ok (.string (ofL l)) w := by
  have := run_convert_bytes_arg (P := Tryd.prog) w 57 5 Tryd.underlying57 Tryd.underlying5 b o l.length cap (l.map fun c => (c.toNat : Int)) (by simp) (fun i hi => by
    rw [h i hi]
    simp [List.getD, hi]) 9 Tryd.underlying9
  rw [this]
  congr 2
  simp [strOfNums, ofL, Function.comp_def]

theorem make_bytes (k : Nat) (hk : k ≤ 100000) (w : World) :
    (Instr.makeSlice 57 (.int .i64 (k : Int)) (.int .i64 (k : Int))).run Tryd.prog w = .ok (.slice (some ⟨w.heap.size, 0, none⟩) k k) (w.alloc (.cells (madeCells #[.int .u8 0] k) 5)) :=
  run_make_row' (P := Tryd.prog) 57 5 (.int .u8 0) 1 Tryd.underlying57 info5 rfl .i64 .i64 k (by omega) (by omega) w

theorem made_cell (z : Value) (k i : Nat) (h : i < k) : (madeCells #[z] k)[i]? = some z := by
  have := toList_madeCells_one z k
  rw [← Array.getElem?_toList, this]
  simp [h]

theorem conv_zeros (w : World) (k : Nat) :
    (convert 57 9 (.slice (some ⟨w.heap.size, 0, none⟩) k k)).run Tryd.prog (w.alloc (.cells (madeCells #[.int .u8 0] k) 5)) = .ok (.string (ofL (List.replicate k 0))) (w.alloc (.cells (madeCells #[.int .u8 0] k) 5)) := by
  have h := conv_bytes (w.alloc (.cells (madeCells #[.int .u8 0] k) 5)) w.heap.size 0 k (List.replicate k 0) (fun i hi => by
    rw [List.length_replicate] at hi
    rw [Nat.zero_add, cell_of_row _ _ _ _ _ _ (heap_alloc_new w _), made_cell _ _ _ hi]
    simp [List.getD, hi])
  rw [List.length_replicate] at h
  exact h

set_option maxHeartbeats 800000 in
set_option maxRecDepth 100000 in
theorem zeros_any (k : Nat) (w : World) (hk : k ≤ 1000) :
    Calls Tryd.prog 88 #[.int .i64 k] w fun e w' => e = .returned (.string (ofL (List.replicate k 0))) ∧ Below w.heap.size w w' := by
  by_cases h0 : k = 0
  · subst h0
    have hmk : ∀ w : World, (Instr.makeSlice 57 (.int .i64 0) (.int .i64 0)).run Tryd.prog w = .ok (.slice (some ⟨w.heap.size, 0, none⟩) 0 0) (w.alloc (.cells (madeCells #[.int .u8 0] 0) 5)) := make_bytes 0 (by omega)
    have hcv := conv_zeros w 0
    go_enter Tryd.func88, Tryd.ntmps88
    go_wp2
    go_ret
    exact ⟨rfl, (Below.refl _ _).alloc (Nat.le_refl _) _⟩
  · have hpos : 0 < k := by omega
    have hmk := make_bytes k (by omega)
    have hcv := conv_zeros w k
    go_enter Tryd.func88, Tryd.ntmps88
    go_wp2
    go_ret
    exact ⟨rfl, (Below.refl _ _).alloc (Nat.le_refl _) _⟩

theorem unused_zeros (d : ByteArray) : (d.toList == (ofL (List.replicate d.size 0)).toList) = unusedOf d := by
  rw [ByteArray.toList_eq, ByteArray.toList_eq, ofL_data]
  have hs : d.size = d.data.toList.length := by simp
  rw [hs]
  unfold unusedOf
  rw [Bool.eq_iff_iff, beq_iff_eq, List.eq_replicate_iff, List.all_eq_true]
  simp

set_option maxHeartbeats 800000 in
theorem refUnused_any (d : ByteArray) (w : World) (hd : d.size ≤ 1000) :
    Calls Tryd.prog 35 #[.string d] w fun e w' => e = .returned (.bool (unusedOf d)) ∧ Below w.heap.size w w' := by
  go_enter Tryd.func35, Tryd.ntmps35
  go_wp2_with fail
  refine (zeros_any _ _ hd).mono ?_
  rintro e w1 ⟨rfl, hb⟩
  go_wp2
  go_ret
  exact ⟨ret_bool (unused_zeros d), hb⟩

/-- What check answers. -/
def checkOf (size : Int) (d : ByteArray) : Int := if (d.size : Int) ≠ size then 11 else if unusedOf d = true then 9 else 0

set_option maxHeartbeats 800000 in
theorem check_any (size : Int) (d : ByteArray) (w : World) (hd : d.size ≤ maxLen) :
    Calls Tryd.prog 82 #[.int .i64 size, .string d] w fun e w' => e = .returned (.int .i64 (checkOf size d)) ∧ Below w.heap.size w w' := by
  by_cases h : (d.size : Int) = size
  · have hb : ((d.size : Int) != size) = false := by simp [h]
    have hc : checkOf size d = if unusedOf d = true then 9 else 0 := by unfold checkOf; rw [if_neg (fun hn => hn h)]
    rw [hc]
    clear h hc
    have HD := Lib.hid hd
    clear hd
    obtain ⟨u, hu⟩ : ∃ u, u = unusedOf d := ⟨_, rfl⟩
    have HU := Lib.hid (unused_any d w HD.out)
    rw [← hu] at HU ⊢
    clear hu
    cases u
    all_goals
      go_enter Tryd.func82, Tryd.ntmps82
      go_wp2_with fail
      refine HU.out.mono ?_
      rintro e w1 ⟨rfl, hb1⟩
      go_wp2
      go_ret
      exact ⟨rfl, hb1⟩
  · have hb : ((d.size : Int) != size) = true := by simp [h]
    have hc : checkOf size d = 11 := by unfold checkOf; rw [if_pos h]
    rw [hc]
    clear h hc
    go_enter Tryd.func82, Tryd.ntmps82
    go_wp2
    go_ret
    exact ⟨rfl, Below.refl _ _⟩
end Go.Proofs.YtnkhifgppcnmkaaDoor

/- Walks: runs over any closure, Size, Fits. -/
namespace Go.Proofs.YtnkhifgppcnmkaaDoor
open Go.RowKit Iv

/-- Within a run the lengths agree; behind it the list ends or the length differs. -/
theorem runLen_in (m : Nat) (l : List ByteArray) (q : Nat) (h : q < runLen m l) : (l.getD q ByteArray.empty).size = m := by
  induction l generalizing q with
  | nil => simp [runLen] at h
  | cons s l ih =>
    rw [runLen] at h
    split at h
    · cases q with
      | zero => simpa using ‹s.size = m›
      | succ q => simpa using ih q (by omega)
    · omega

theorem runLen_end (m : Nat) (l : List ByteArray) (h : runLen m l < l.length) : (l.getD (runLen m l) ByteArray.empty).size ≠ m := by
  induction l with
  | nil => simp at h
  | cons s l ih =>
    rw [runLen] at h ⊢
    split
    · rename_i hs
      rw [if_pos hs] at h
      simpa using ih (by simpa using h)
    · rename_i hs
      simpa using hs

theorem runsOf_cons (s : ByteArray) (l : List ByteArray) : runsOf (s :: l) = (runLen s.size l + 1, s.size) :: runsOf (l.drop (runLen s.size l)) := by
  rw [runsOf]

theorem drop_cons_getD (l : List ByteArray) (j : Nat) (h : j < l.length) : l.drop j = l.getD j ByteArray.empty :: l.drop (j + 1) := by
  rw [List.drop_eq_getElem_cons h]
  simp [List.getD, h]

set_option maxHeartbeats 1600000 in
set_option maxRecDepth 100000 in
theorem runs_any (fn : Nat) (cap : Addr) (A : Option Addr) (c : Nat) (l : List ByteArray) (w : World) (hl : l.length ≤ 100000) (hc : l.length ≤ c) (I : Nat → World → Prop)
    (hread : ∀ k w', I k w' → StrsA w' A l)
    (hstep : ∀ k w' r, (runsOf l)[k]? = some r → I k w' → Calls Tryd.prog fn #[.int .i64 (r.1 : Nat), .int .i64 (r.2 : Nat), .pointer (some cap)] w' fun e w'' => e = .returned (.tuple #[]) ∧ I (k + 1) w'')
    (hdraw : ∀ k w' n, I k w' → I k (w'.drewN n)) (hcall : ∀ (args : Array Value) (w : World), (callFunc fn args).run Tryd.prog w = .ok (.enter fn args) w) (h0 : I 0 w) :
    Calls Tryd.prog 91 #[.slice A l.length c, .func (.func fn) #[] #[.pointer (some cap)]] w fun e w' => e = .returned (.tuple #[]) ∧ I (runsOf l).length w' := by
  have HREAD := Lib.hid hread
  have HSTEP := Lib.hid hstep
  have HDRAW := Lib.hid hdraw
  clear hread hstep hdraw
  go_enter Tryd.func91, Tryd.ntmps91
  go_wp2
  go_loopw [0] (fun x wr => ∃ (k j c' : Nat) (A' : Option Addr), x = .slice A' (l.length - j) c' ∧ k ≤ (runsOf l).length ∧ j ≤ l.length ∧ l.length - j ≤ c' ∧ runsOf (l.drop j) = (runsOf l).drop k ∧ I k wr ∧ (j < l.length → ∃ b o, A = some ⟨b, o, none⟩ ∧ A' = some ⟨b, o + j, none⟩))
    (fun x _ => match x with | .slice _ n _ => n | _ => 0)
  case atStart =>
    refine ⟨0, 0, c, A, rfl, by omega, by omega, by omega, rfl, h0, fun h => ?_⟩
    obtain ⟨b, o, rfl, _⟩ := HREAD.out 0 w h0 h
    exact ⟨b, o, rfl, rfl⟩
  case round =>
    obtain ⟨k, j, c', A', rfl, hkl, hj, hjc, hrun, hI, hA⟩ := hrel
    have HI := Lib.hid hI
    have HRUN := Lib.hid hrun
    clear hI hrun h0
    by_cases hlt : j < l.length
    · obtain ⟨b, o, rfl, rfl⟩ := hA hlt
      clear hA
      have hcell : ∀ i, i < l.length → wr.cell? ⟨b, o + i, none⟩ = some (.string (l.getD i ByteArray.empty)) := by
        obtain ⟨b', o', e, _, h⟩ := HREAD.out k wr HI.out (by omega)
        simp only [Option.some.injEq, Addr.mk.injEq, and_true] at e
        obtain ⟨rfl, rfl⟩ := e
        exact h
      have hc0 := hcell j hlt
      have HD := Lib.hid (drop_cons_getD l j hlt)
      obtain ⟨s, hs⟩ : ∃ s, s = l.getD j ByteArray.empty := ⟨_, rfl⟩
      rw [← hs] at hc0 HD
      have HS := Lib.hid hs
      have HC := Lib.hid hcell
      clear hcell hs
      obtain ⟨n, hn⟩ : ∃ n, n = l.length - j := ⟨_, rfl⟩
      rw [← hn] at hjc ⊢
      have hnpos : 0 < n := by omega
      have hn2 : n ≤ 100000 := by omega
      have HN := Lib.hid hn
      clear hn
      go_wp2
      obtain ⟨Q, hQ⟩ : ∃ Q, Q = runLen s.size (l.drop (j + 1)) + 1 := ⟨_, rfl⟩
      have hQn : Q ≤ n := by
        have := runLen_le s.size (l.drop (j + 1))
        rw [List.length_drop] at this
        have := HN.out
        omega
      have hQ1 : 1 ≤ Q := by omega
      have HIN : Hid (∀ q, 1 ≤ q → q < Q → (l.getD (j + q) ByteArray.empty).size = s.size) := by
        intro q h1 h2
        have := runLen_in s.size (l.drop (j + 1)) (q - 1) (by omega)
        rw [← this]
        simp [List.getD, show j + 1 + (q - 1) = j + q by omega]
      have HEND : Hid (Q < n → (l.getD (j + Q) ByteArray.empty).size ≠ s.size) := by
        intro h1 h2
        have := runLen_end s.size (l.drop (j + 1)) (by rw [List.length_drop]; have := HN.out; omega)
        apply this
        refine (congrArg ByteArray.size ?_).trans h2
        rw [hQ]
        simp [List.getD, show j + (runLen s.size (l.drop (j + 1)) + 1) = j + 1 + runLen s.size (l.drop (j + 1)) by omega]
      have HRK : Hid ((runsOf l)[k]? = some (Q, s.size) ∧ runsOf (l.drop (j + Q)) = (runsOf l).drop (k + 1)) := by
        have h := HRUN.out
        rw [HD.out, runsOf_cons, ← hQ, List.drop_drop] at h
        have h2 : (runsOf l).drop k = (Q, s.size) :: (runsOf l).drop (k + 1) := by
          have hlt : k < (runsOf l).length := by
            rcases Nat.lt_or_ge k (runsOf l).length with h' | h'
            · exact h'
            · rw [List.drop_eq_nil_of_le h'] at h; cases h
          rw [List.drop_eq_getElem_cons hlt] at h ⊢
          injection h with h3 h4
          rw [← h3]
        rw [h2] at h
        injection h with h3 h4
        refine ⟨?_, by rw [← h4]; congr 2; omega⟩
        rw [← List.head?_drop, h2]
        rfl
      clear hQ
      go_loopw [4] (fun i wq => ∃ q m : Nat, wq = wr.drewN m ∧ i = .int .i64 q ∧ 1 ≤ q ∧ q ≤ Q) (fun i _ => n - (intOf i).toNat)
      case atStart => exact ⟨1, 0, rfl, rfl, by omega, by omega⟩
      case round =>
        obtain ⟨q, m, rfl, rfl, hq1, hq2⟩ := hrel
        by_cases hqe : q < Q
        · -- the run goes on
          have hqn : (q : Int) < (n : Int) := by omega
          have hcq : wr.cell? ⟨b, o + j + q, none⟩ = some (.string (l.getD (j + q) ByteArray.empty)) := by
            rw [Nat.add_assoc]; exact HC.out (j + q) (by have := HN.out; omega)
          have hsz := HIN.out q hq1 hqe
          obtain ⟨t, ht⟩ : ∃ t, t = l.getD (j + q) ByteArray.empty := ⟨_, rfl⟩
          rw [← ht] at hcq hsz
          clear ht
          have hsz' : (((t.size : Nat) : Int) == ((s.size : Nat) : Int)) = true := by simp [hsz]
          clear hsz
          go_wp2
          go_quiet (fail)
          go_wp2
          exact ⟨⟨q + 1, m + nq, rfl, by go_num, by omega, by omega⟩, by simp [intOf]; omega⟩
        · obtain rfl : q = Q := by omega
          have HCAP : Hid (n - q = l.length - (j + q)) := by show _ = _; have := HN.out; omega
          by_cases hqn : q < n
          · have hqn' : (q : Int) < (n : Int) := by omega
            have hcq : wr.cell? ⟨b, o + j + q, none⟩ = some (.string (l.getD (j + q) ByteArray.empty)) := by
              rw [Nat.add_assoc]; exact HC.out (j + q) (by have := HN.out; omega)
            have hsz := HEND.out hqn
            obtain ⟨t, ht⟩ : ∃ t, t = l.getD (j + q) ByteArray.empty := ⟨_, rfl⟩
            rw [← ht] at hcq hsz
            clear ht
            have hsz' : (((t.size : Nat) : Int) == ((s.size : Nat) : Int)) = false := by simp only [beq_eq_false_iff_ne, ne_eq]; omega
            clear hsz
            go_wp2
            go_quiet (fail)
            go_wp2_with fail
            refine (HSTEP.out k _ (q, s.size) HRK.out.1 (HDRAW.out _ _ _ HI.out)).mono ?_
            rintro e w2 ⟨rfl, hI2⟩
            have HI2 := Lib.hid hI2
            clear hI2
            go_wp2
            have hkk : k + 1 ≤ (runsOf l).length := (List.getElem?_eq_some_iff.1 HRK.out.1).1
            have hjq : j + q ≤ l.length := by have := HN.out; omega
            refine ⟨⟨k + 1, j + q, c' - q, _, by rw [HCAP.out], hkk, hjq, by have := HCAP.out; omega, HRK.out.2, HI2.out, fun _ => ⟨b, o, rfl, by rw [Nat.add_assoc]⟩⟩, ?_⟩
            · show n - q < n
              omega
          · obtain rfl : q = n := by omega
            have hd : decide ((q : Int) < (q : Int)) = false := by simp
            go_wp2
            go_quiet (fail)
            go_wp2_with fail
            refine (HSTEP.out k _ (q, s.size) HRK.out.1 (HDRAW.out _ _ _ HI.out)).mono ?_
            rintro e w2 ⟨rfl, hI2⟩
            have HI2 := Lib.hid hI2
            clear hI2
            go_wp2
            have hkk : k + 1 ≤ (runsOf l).length := (List.getElem?_eq_some_iff.1 HRK.out.1).1
            have hjq : j + q ≤ l.length := by have := HN.out; omega
            refine ⟨⟨k + 1, j + q, c' - q, _, by rw [← HCAP.out, Nat.sub_self], hkk, hjq, by have := HCAP.out; omega, HRK.out.2, HI2.out, fun h => by have := HCAP.out; omega⟩, ?_⟩
            · show 0 < q
              omega
    · have : j = l.length := by omega
      subst this
      go_wp2
      go_end0
      have h := HRUN.out
      rw [List.drop_length] at h
      rw [show runsOf [] = [] by rw [runsOf]] at h
      have hk : (runsOf l).length ≤ k := List.drop_eq_nil_iff.1 h.symm
      obtain rfl : k = (runsOf l).length := by omega
      exact ⟨rfl, HI.out⟩

theorem call100 (args : Array Value) (w : World) : (callFunc 100 args).run Tryd.prog w = .ok (.enter 100 args) w := by
  kernel_rfl

set_option maxHeartbeats 400000 in
set_option maxRecDepth 100000 in
theorem size1_any (w : World) (g : Nat) (n m o : Nat) (hn : n ≤ 100000) (hm : m ≤ 100000) (ho : o ≤ 1000000000000) (hn1 : 1 ≤ n) (hg : w.heap[g]? = some (.cells #[.int .i64 o] 3 (0, 0))) :
    Calls Tryd.prog 100 #[.int .i64 n, .int .i64 m, .pointer (some ⟨g, 0, none⟩)] w fun e w' => e = .returned (.tuple #[]) ∧ w' = w.setCell ⟨g, 0, none⟩ (.int .i64 ((sizeR o (n, m) : Nat) : Int)) := by
  have hc := cell_of_row _ _ 0 _ _ _ hg
  have hf := frozen_of_row _ _ 0 _ _ hg
  clear hg
  have hnm : n * m ≤ 10000000000 := Nat.mul_le_mul hn hm
  have h0 : (0 : Int) ≤ (n : Int) * (m : Int) := Int.mul_nonneg (by omega) (by omega)
  have h1 : (n : Int) * (m : Int) ≤ 10000000000 := by
    have : ((n * m : Nat) : Int) ≤ 10000000000 := by omega
    rwa [Int.natCast_mul] at this
  have hw : wrap64 ((n : Int) * (m : Int)) = (n : Int) * (m : Int) := by
    obtain ⟨p, hp⟩ : ∃ p, p = (n : Int) * (m : Int) := ⟨_, rfl⟩
    rw [← hp] at h0 h1 ⊢
    unfold wrap64
    omega
  clear hnm
  go_enter Tryd.func100, Tryd.ntmps100
  go_wp2
  all_goals
    go_end0
    refine ⟨rfl, ?_⟩
    congr 2
    unfold sizeR
    dsimp only
    simp only [Int.natCast_add, Int.natCast_mul]
    omega

theorem runs_bound (l : List ByteArray) (M : Nat) (h : ∀ s ∈ l, s.size ≤ M) : ∀ r ∈ runsOf l, r.1 ≤ l.length ∧ r.2 ≤ M := by
  induction l using runsOf.induct with
  | case1 => rw [runsOf]; simp
  | case2 s l ih =>
    rw [runsOf]
    intro r hr
    rcases List.mem_cons.1 hr with rfl | hr
    · have := runLen_le s.size l
      exact ⟨by simp only [List.length_cons]; omega, h s List.mem_cons_self⟩
    · have := ih (fun t ht => h t (List.mem_cons_of_mem _ (List.mem_of_mem_drop ht))) r hr
      rw [List.length_drop] at this
      exact ⟨by rw [List.length_cons]; omega, this.2⟩

theorem content_bound (l : List ByteArray) (M : Nat) (h : ∀ s ∈ l, s.size ≤ M) : (content l).length ≤ l.length * M := by
  induction l with
  | nil => simp [content]
  | cons s l ih =>
    rw [content_cons, List.length_append, List.length_cons, Nat.succ_mul]
    have := ih (fun t ht => h t (List.mem_cons_of_mem _ ht))
    have := h s List.mem_cons_self
    have e : s.data.toList.length = s.size := by simp
    omega

theorem fields_bound (l : List ByteArray) : (fieldsOf l).length ≤ 6 * l.length := by
  have h : ∀ l : List ByteArray, (runsOf l).foldl (fun a r => a + 3 * min r.1 2) 0 ≤ 6 * l.length := by
    intro l
    induction l using runsOf.induct with
    | case1 => rw [runsOf]; simp
    | case2 s l ih =>
      rw [runsOf]
      simp only [List.foldl_cons]
      have e : ∀ (qs : List (Nat × Nat)) (a : Nat), qs.foldl (fun a r => a + 3 * min r.1 2) a = a + qs.foldl (fun a r => a + 3 * min r.1 2) 0 := by
        intro qs
        induction qs with
        | nil => intro a; rfl
        | cons q qs ihq => intro a; simp only [List.foldl_cons]; rw [ihq, ihq (0 + _)]; omega
      rw [e]
      rw [List.length_drop] at ih
      rw [List.length_cons]
      have := runLen_le s.size l
      omega
  unfold fieldsOf
  rw [foldl_fields_length _ (runs_pos l)]
  have := h l
  simpa using this

theorem sizeR_le (rs : List (Nat × Nat)) (a : Nat) : a ≤ rs.foldl sizeR a := by
  rw [foldl_size]; omega

theorem size_prefix (l : List ByteArray) (k : Nat) : ((runsOf l).take k).foldl sizeR 4 ≤ szOf l := by
  unfold szOf
  conv => rhs; rw [← List.take_append_drop k (runsOf l), List.foldl_append]
  exact sizeR_le _ _

theorem size_bound (l : List ByteArray) (h1 : l.length ≤ 1000) (h2 : ∀ s ∈ l, s.size ≤ 1000) : szOf l ≤ 10000000 := by
  have a := content_bound l 1000 h2
  have b := fields_bound l
  rw [sizes]
  have : l.length * 1000 ≤ 1000 * 1000 := Nat.mul_le_mul_right _ h1
  omega

set_option maxHeartbeats 800000 in
theorem size_any (A : Option Addr) (c : Nat) (l : List ByteArray) (w : World) (hl : l.length ≤ 1000) (hr : ∀ s ∈ l, s.size ≤ 1000) (hc : l.length ≤ c) (hs : StrsA w A l) :
    Calls Tryd.prog 39 #[.slice A l.length c] w fun e w' => e = .returned (.int .i64 (szOf l : Nat)) ∧ Below w.heap.size w w' := by
  have hb := runs_bound l 1000 hr
  have hsb := size_bound l hl hr
  have HRUNS := Lib.hid (runs_any 100 ⟨w.heap.size, 0, none⟩ A c l (w.alloc (.cells #[.int .i64 4] 3)) (by omega) hc
    (fun k wr => wr.heap[w.heap.size]? = some (.cells #[.int .i64 (((runsOf l).take k).foldl sizeR 4 : Nat)] 3 (0, 0)) ∧ Below w.heap.size w wr)
    (fun k w' h => hs.keep h.2)
    (fun k w' r hk h => by
      have hmem : r ∈ runsOf l := List.mem_of_getElem? hk
      have h1 := hb r hmem
      have h2 := runs_pos l r hmem
      have h3 := size_prefix l k
      refine (size1_any w' w.heap.size r.1 r.2 _ (by omega) (by omega) (by omega) h2 h.1).mono ?_
      rintro e w'' ⟨rfl, rfl⟩
      refine ⟨rfl, ?_, h.2.setCell (Nat.le_refl _) _⟩
      rw [heap_setCell_same _ _ _ _ _ _ h.1]
      have hlt := (List.getElem?_eq_some_iff.1 hk)
      obtain ⟨hlt, rfl⟩ := hlt
      rw [List.take_succ_eq_append_getElem hlt, List.foldl_append]
      rfl)
    (fun k w' n h => ⟨h.1, below_drewN h.2 n⟩)
    call100
    ⟨heap_alloc_new _ _, (Below.refl _ _).alloc (Nat.le_refl _) _⟩)
  clear hb hsb hs
  go_enter Tryd.func39, Tryd.ntmps39
  go_wp2_with fail
  refine HRUNS.out.mono ?_
  rintro e w2 ⟨rfl, h2, hb2⟩
  rw [List.take_length] at h2
  have hcell := cell_of_row _ _ 0 _ _ _ h2
  clear h2
  go_wp2
  go_ret
  exact ⟨rfl, hb2⟩
end Go.Proofs.YtnkhifgppcnmkaaDoor

/- Walks: the page that is being written: two, field, put, done, newPage. -/
namespace Go.Proofs.YtnkhifgppcnmkaaDoor
open Go.RowKit Iv

/-- Of the blocks that were there only those of S may have changed. -/
structure Chg (S : Nat → Prop) (w w' : World) : Prop where
  os : w'.os = w.os
  tape : w'.tape = w.tape
  output : w'.output = w.output
  size : w.heap.size ≤ w'.heap.size
  block : ∀ k, k < w.heap.size → ¬ S k → w'.heap[k]? = w.heap[k]?

section
variable {S T : Nat → Prop} {w w' w'' : World}
theorem Chg.refl (S : Nat → Prop) (w : World) : Chg S w w := ⟨rfl, rfl, rfl, Nat.le_refl _, fun _ _ _ => rfl⟩
theorem Chg.trans (h : Chg S w w') (h' : Chg S w' w'') : Chg S w w'' :=
  ⟨h'.os.trans h.os, h'.tape.trans h.tape, h'.output.trans h.output, Nat.le_trans h.size h'.size, fun k hk hn => (h'.block k (Nat.lt_of_lt_of_le hk h.size) hn).trans (h.block k hk hn)⟩
theorem Chg.mono (h : Chg S w w') (hS : ∀ k, S k → T k) : Chg T w w' := ⟨h.os, h.tape, h.output, h.size, fun k hk hn => h.block k hk (fun hs => hn (hS k hs))⟩
theorem Chg.of_below (h : Below w.heap.size w w') : Chg S w w' := ⟨h.os, h.tape, h.output, h.size, fun k hk _ => h.block k hk⟩
theorem Chg.below {B : Nat} (h : Chg S w w') (hS : ∀ k, S k → B ≤ k) (hB : B ≤ w.heap.size) : Below B w w' := ⟨h.os, h.tape, h.output, h.size, fun k hk => h.block k (by omega) (fun hs => by have := hS k hs; omega)⟩
theorem Chg.setCell (h : Chg S w w') {p : Addr} (hp : S p.block) (v : Value) : Chg S w (w'.setCell p v) :=
  h.trans ⟨rfl, rfl, rfl, by simp [World.setCell], fun k _ hn => Below.heap_setCell _ _ _ _ (fun e => by subst e; exact hn hp)⟩
theorem Chg.setRow (h : Chg S w w') {g : Nat} (hp : S g) (cs : Array Value) : Chg S w (w'.setRow g cs) :=
  h.trans ⟨rfl, rfl, rfl, by simp, fun k _ hn => setRow_other _ g k cs (fun e => by subst e; exact hn hp)⟩
theorem Chg.drew (h : Chg S w w') : Chg S w w'.drew := ⟨h.os, h.tape, h.output, h.size, h.block⟩
theorem Chg.drewN (h : Chg S w w') (n : Nat) : Chg S w (w'.drewN n) := h.trans (Chg.of_below (below_drewN (Below.refl _ _) n))
end

/-- The cells of bytes. -/
def u8s (bs : List UInt8) : Array Value := (bs.map fun c => Value.int .u8 ((c.toNat : Nat) : Int)).toArray
theorem u8s_size (bs : List UInt8) : (u8s bs).size = bs.length := by simp [u8s]
theorem u8s_get (bs : List UInt8) (i : Nat) (h : i < bs.length) : (u8s bs)[i]? = some (.int .u8 (((bs.getD i 0).toNat : Nat) : Int)) := by
  simp [u8s, List.getD, h]
theorem u8s_set (bs : List UInt8) (i : Nat) (v : UInt8) : (u8s bs).setIfInBounds i (.int .u8 ((v.toNat : Nat) : Int)) = u8s (bs.set i v) := by
  simp [u8s, List.map_set]
theorem u8s_zeros (n : Nat) : madeCells #[.int .u8 0] n = u8s (List.replicate n 0) := by
  have := toList_madeCells_one (.int .u8 0) n
  apply Array.toList_inj.1
  rw [this]
  simp [u8s]

/-- A page that is being written: its struct in block g, its bytes in block bb. -/
structure Pg (w : World) (g bb size : Nat) (bs : List UInt8) (left right : Nat) : Prop where
  fld : w.heap[g]? = some (.cells #[.slice (some ⟨bb, 0, none⟩) size size, .int .i64 left, .int .i64 right] 186 (0, 0))
  row : w.heap[bb]? = some (.cells (u8s bs) 5 (0, 0))
  len : bs.length = size

theorem Pg.ne {w : World} {g bb size : Nat} {bs : List UInt8} {l r : Nat} (h : Pg w g bb size bs l r) : g ≠ bb := by
  rintro rfl
  have := h.fld.symm.trans h.row
  simp at this

theorem Pg.keep {w w' : World} {g bb size : Nat} {bs : List UInt8} {l r : Nat} (h : Pg w g bb size bs l r) (hg : w'.heap[g]? = w.heap[g]?) (hb : w'.heap[bb]? = w.heap[bb]?) : Pg w' g bb size bs l r :=
  ⟨hg.trans h.fld, hb.trans h.row, h.len⟩

/-- The page's blocks. -/
def PS (g bb : Nat) (k : Nat) : Prop := k = g ∨ k = bb

theorem ofNat_toNat (n : Nat) : (((UInt8.ofNat n).toNat : Nat) : Int) = (n : Int) % 256 := by
  simp only [UInt8.toNat_ofNat']
  omega

/-- Two bytes set. -/
def set2 (bs : List UInt8) (i n : Nat) : List UInt8 := (bs.set i (UInt8.ofNat n)).set (i + 1) (UInt8.ofNat (n / 256))

theorem set2_length (bs : List UInt8) (i n : Nat) : (set2 bs i n).length = bs.length := by simp [set2]

theorem Pg.setByte {w : World} {g bb size : Nat} {bs : List UInt8} {l r : Nat} (h : Pg w g bb size bs l r) (i n : Nat) {x : Int} (hx : x = (n : Int) % 256) :
    Pg (w.setCell ⟨bb, i, none⟩ (.int .u8 x)) g bb size (bs.set i (UInt8.ofNat n)) l r := by
  subst hx
  refine ⟨?_, ?_, by rw [List.length_set]; exact h.len⟩
  · rw [heap_setCell_other _ _ _ _ h.ne]; exact h.fld
  · rw [heap_setCell_same _ _ _ _ _ _ h.row, ← ofNat_toNat, u8s_set]

theorem Pg.drew {w : World} {g bb size : Nat} {bs : List UInt8} {l r : Nat} (h : Pg w g bb size bs l r) : Pg w.drew g bb size bs l r := ⟨h.fld, h.row, h.len⟩

set_option maxHeartbeats 1600000 in
set_option maxRecDepth 100000 in
theorem two_any (w : World) (g bb size : Nat) (bs : List UInt8) (l r i n : Nat) (h : Pg w g bb size bs l r) (hi : i + 1 < size) (hs : size ≤ 1000) (hn : n < 65536) :
    Calls Tryd.prog 136 #[.pointer (some ⟨g, 0, none⟩), .int .i64 i, .int .i64 n] w fun e w' => e = .returned (.tuple #[]) ∧ Pg w' g bb size (set2 bs i n) l r ∧ Chg (PS g bb) w w' := by
  have hne := h.ne
  have hlen := h.len
  have hcf := cell_of_row _ _ 0 _ _ _ h.fld
  have hc1 := cell_of_row _ _ i _ _ _ h.row
  have hc2 := cell_of_row _ _ (i + 1) _ _ _ h.row
  rw [u8s_get _ _ (by omega)] at hc1 hc2
  have hf1 := frozen_of_row _ _ i _ _ h.row
  have hf2 := frozen_of_row _ _ (i + 1) _ _ h.row
  have H := Lib.hid h
  clear h hlen
  have q0 : (0 : Int) ≤ (i : Int) := by omega
  have q1 : (i : Int) < (size : Int) := by omega
  have q2 : (0 : Int) ≤ (i : Int) + 1 := by omega
  have q3 : (i : Int) + 1 < (size : Int) := by omega
  have q4 : ((i : Int) + 1).toNat = i + 1 := by omega
  go_enter Tryd.func136, Tryd.ntmps136
  obtain ⟨wo, rfl⟩ : ∃ wo : World, wo = w := ⟨_, rfl⟩
  go_wp2
  go_region
  go_end0
  exact ⟨rfl, ((H.out.setByte i n rfl).setByte (i + 1) (n / 256) (by omega)).drew, (((Chg.refl _ _).setCell (.inr rfl) _).setCell (.inr rfl) _).drew⟩

theorem two_at (w : World) (g bb size : Nat) (bs : List UInt8) (l r i n : Nat) (ii nn : Int) (hii : ii = i) (hnn : nn = n) (h : Pg w g bb size bs l r) (hi : i + 1 < size) (hs : size ≤ 1000) (hn : n < 65536) :
    Calls Tryd.prog 136 #[.pointer (some ⟨g, 0, none⟩), .int .i64 ii, .int .i64 nn] w fun e w' => e = .returned (.tuple #[]) ∧ Pg w' g bb size (set2 bs i n) l r ∧ Chg (PS g bb) w w' := by
  subst hii
  subst hnn
  exact two_any w g bb size bs l r i n h hi hs hn

theorem Pg.setLeft {w : World} {g bb size : Nat} {bs : List UInt8} {l r : Nat} (h : Pg w g bb size bs l r) (k : Nat) : Pg (w.setCell ⟨g, 1, none⟩ (.int .i64 k)) g bb size bs k r := by
  refine ⟨?_, ?_, h.len⟩
  · rw [heap_setCell_same _ _ _ _ _ _ h.fld]; rfl
  · rw [heap_setCell_other _ _ _ _ (Ne.symm h.ne)]; exact h.row
theorem Pg.setRight {w : World} {g bb size : Nat} {bs : List UInt8} {l r : Nat} (h : Pg w g bb size bs l r) (k : Nat) : Pg (w.setCell ⟨g, 2, none⟩ (.int .i64 k)) g bb size bs l k := by
  refine ⟨?_, ?_, h.len⟩
  · rw [heap_setCell_same _ _ _ _ _ _ h.fld]; rfl
  · rw [heap_setCell_other _ _ _ _ (Ne.symm h.ne)]; exact h.row

set_option maxHeartbeats 1600000 in
set_option maxRecDepth 100000 in
theorem field_any (w : World) (g bb size : Nat) (bs : List UInt8) (l r n : Nat) (c : Nat) (h : Pg w g bb size bs l r) (hl3 : 3 ≤ l) (hl : l ≤ size) (hs : size ≤ 1000) (hc : c < 256) (hn : n < 65536) :
    Calls Tryd.prog 93 #[.pointer (some ⟨g, 0, none⟩), .int .u8 c, .int .i64 n] w fun e w' => e = .returned (.tuple #[]) ∧ Pg w' g bb size (set2 (bs.set (l - 3) (UInt8.ofNat c)) (l - 3 + 1) n) (l - 3) r ∧ Chg (PS g bb) w w' := by
  have hne := h.ne
  have hlen := h.len
  obtain ⟨k, hk⟩ : ∃ k, k = l - 3 := ⟨_, rfl⟩
  have hlk : (l : Int) - 3 = (k : Int) := by omega
  have hks : (k : Int) < (size : Int) := by omega
  have hkk : k + 3 ≤ size := by omega
  have hcf := cell_of_row _ _ 0 _ _ _ h.fld
  have hcl := cell_of_row _ _ 1 _ _ _ h.fld
  have hfl := frozen_of_row _ _ 1 _ _ h.fld
  have hck := cell_of_row _ _ k _ _ _ h.row
  rw [u8s_get _ _ (by omega)] at hck
  have hfk := frozen_of_row _ _ k _ _ h.row
  rw [← hk]
  have H := Lib.hid h
  clear h hlen hk
  go_enter Tryd.func93, Tryd.ntmps93
  go_wp2
  go_region
  have HP : Hid (Pg ((w.setCell ⟨g, 1, none⟩ (.int .i64 k)).setCell ⟨bb, k, none⟩ (.int .u8 c)) g bb size (bs.set k (UInt8.ofNat c)) k r) := (H.out.setLeft k).setByte k c (by omega)
  go_wp2_with fail
  refine (two_at _ g bb size _ k r (k + 1) n _ _ (by omega) rfl HP.out.drew (by omega) hs hn).mono ?_
  rintro e w2 ⟨rfl, hp, hch⟩
  go_wp2
  go_end0
  exact ⟨rfl, hp, (((Chg.refl _ _).setCell (.inl rfl) _).setCell (.inr rfl) _).drew.trans hch⟩

set_option maxHeartbeats 1600000 in
set_option maxRecDepth 100000 in
theorem newPage_any (size : Nat) (w : World) (hs : size ≤ 1000) (h4 : 4 ≤ size) :
    Calls Tryd.prog 90 #[.int .i64 size] w fun e w' => e = .returned (.pointer (some ⟨w.heap.size + 1, 0, none⟩)) ∧ Pg w' (w.heap.size + 1) w.heap.size size (List.replicate size 0) (size - 4) 0 ∧ w'.heap.size = w.heap.size + 2 ∧ Below w.heap.size w w' := by
  have hmk := make_bytes size (by omega)
  go_enter Tryd.func90, Tryd.ntmps90
  go_wp2
  go_ret
  refine ⟨rfl, ⟨?_, ?_, by simp⟩, by simp, ((Below.refl _ _).alloc (Nat.le_refl _) _).alloc (by simp) _⟩
  · rw [heap_at_alloc (by simp), show ((size - 4 : Nat) : Int) = (size : Int) - 4 by omega]; rfl
  · rw [Below.heap_alloc _ _ _ (by simp), heap_alloc_new, u8s_zeros]

theorem info5s : (Tryd.prog.info? 5).map (·.size) = some 1 := by kernel_rfl

theorem u8s_splice (bs : List UInt8) (r : Nat) (s : ByteArray) :
    ((u8s bs).toList.take r ++ Lib.byteCells s.data.toList ++ (u8s bs).toList.drop (r + s.size)).toArray = u8s (bs.take r ++ s.data.toList ++ bs.drop (r + s.size)) := by
  apply Array.toList_inj.1
  simp [u8s, Lib.byteCells]

set_option maxHeartbeats 1600000 in
set_option maxRecDepth 100000 in
theorem put_any (w : World) (g bb size : Nat) (bs : List UInt8) (l r : Nat) (s : ByteArray) (h : Pg w g bb size bs l r) (hr : r + s.size ≤ size) (hs : size ≤ 1000) :
    Calls Tryd.prog 94 #[.pointer (some ⟨g, 0, none⟩), .string s] w fun e w' => e = .returned (.tuple #[]) ∧ Pg w' g bb size (bs.take r ++ s.data.toList ++ bs.drop (r + s.size)) l (r + s.size) ∧ Chg (PS g bb) w w' := by
  have hne := h.ne
  have hlen := h.len
  have hcf := cell_of_row _ _ 0 _ _ _ h.fld
  have hcr := cell_of_row _ _ 2 _ _ _ h.fld
  have hfr := frozen_of_row _ _ 2 _ _ h.fld
  by_cases h0 : s.size = 0
  · have hcp := fun ty d dl dc => Lib.run_copy_empty_string (P := Tryd.prog) w.drew 57 9 ty 5 d dl dc s Tryd.underlying57 (by rw [info5s]; rfl) h0
    have q1 : (0 : Int) ≤ (r : Int) := by omega
    have q2 : (r : Int) ≤ (size : Int) := by omega
    have hnb : bs.take r ++ s.data.toList ++ bs.drop (r + s.size) = bs := by
      have : s.data.toList = [] := List.eq_nil_of_length_eq_zero (by simpa using h0)
      rw [this, h0]; simp
    rw [hnb, h0, Nat.add_zero]
    clear hnb
    have H := Lib.hid h
    clear h hlen
    go_enter Tryd.func94, Tryd.ntmps94
    go_wp2
    go_region
    go_end0
    exact ⟨rfl, H.out.drew.setRight _, (Chg.refl _ _).drew.setCell (.inl rfl) _⟩
  · have hrs : r < size := by omega
    have q1 : (0 : Int) ≤ (r : Int) := by omega
    have q2 : (r : Int) ≤ (size : Int) := by omega
    have hcp := fun ty => Lib.run_copy_row_string (P := Tryd.prog) w.drew 57 9 ty 5 bb r (size - r) (size - r) s (u8s bs) 5 Tryd.underlying57 info5s h.row (by omega) (by rw [u8s_size]; omega)
    rw [u8s_splice] at hcp
    obtain ⟨nb, hnb⟩ : ∃ nb, nb = bs.take r ++ s.data.toList ++ bs.drop (r + s.size) := ⟨_, rfl⟩
    rw [← hnb] at hcp ⊢
    have hrow' : (w.drew.setRow bb (u8s nb)).cell? ⟨g, 2, none⟩ = w.cell? ⟨g, 2, none⟩ := cell_setRow_other _ _ _ _ hne
    rw [hcr] at hrow'
    have hfrow' : (w.drew.setRow bb (u8s nb)).frozen? ⟨g, 2, none⟩ = false := by
      have : (w.drew.setRow bb (u8s nb)).heap[g]? = w.heap[g]? := setRow_other _ _ _ _ hne
      simp only [World.frozen?] at hfr ⊢
      rw [this]
      exact hfr
    have HNB : Hid (nb.length = size) := by
      show _ = _
      have e : s.data.toList.length = s.size := by simp
      rw [hnb]
      simp only [List.length_append, List.length_take, List.length_drop]
      omega
    have HP : Hid (Pg (w.drew.setRow bb (u8s nb)) g bb size nb l r) := ⟨(setRow_other _ _ _ _ hne).trans h.fld, setRow_heap _ _ _ _ _ _ h.row, HNB.out⟩
    have hsz : (r : Int) + (s.size : Int) = ((r + s.size : Nat) : Int) := by omega
    have HSZ := Lib.hid hsz
    clear h hlen hnb hsz
    go_enter Tryd.func94, Tryd.ntmps94
    go_wp2
    go_region
    go_end0
    refine ⟨rfl, ?_, ((Chg.refl _ _).drew.setRow (.inr rfl) _).setCell (.inl rfl) _⟩
    rw [HSZ.out]
    exact HP.out.setRight _

/-- Behind the last two numbers the page is this text. -/
theorem done_text (size : Nat) (c f : List UInt8) (h : 4 + c.length + f.length ≤ size) :
    set2 (set2 (c ++ (List.replicate (size - 4 - c.length - f.length) 0 ++ (f ++ [0, 0, 0, 0]))) (size - 4) c.length) (size - 2) (size - 4 - f.length - c.length) = whole size c f := by
  have hl : (c ++ (List.replicate (size - 4 - c.length - f.length) (0 : UInt8) ++ f)).length = size - 4 := by simp; omega
  rw [show c ++ (List.replicate (size - 4 - c.length - f.length) (0 : UInt8) ++ (f ++ [0, 0, 0, 0])) = (c ++ (List.replicate (size - 4 - c.length - f.length) 0 ++ f)) ++ [0, 0, 0, 0] by simp]
  unfold set2 whole
  rw [List.set_append_right _ _ (by omega), List.set_append_right _ _ (by omega), List.set_append_right _ _ (by omega), List.set_append_right _ _ (by omega), hl]
  rw [show size - 4 - (size - 4) = 0 by omega, show size - 4 + 1 - (size - 4) = 1 by omega, show size - 2 - (size - 4) = 2 by omega, show size - 2 + 1 - (size - 4) = 3 by omega]
  rw [show size - 4 - f.length - c.length = size - 4 - c.length - f.length by omega]
  simp

set_option maxHeartbeats 1600000 in
set_option maxRecDepth 100000 in
theorem done_any (w : World) (g bb size : Nat) (c f : List UInt8) (h : Pg w g bb size (c ++ (List.replicate (size - 4 - c.length - f.length) 0 ++ (f ++ [0, 0, 0, 0]))) (size - 4 - f.length) c.length) (hfit : 4 + c.length + f.length ≤ size) (hs : size ≤ 1000) :
    Calls Tryd.prog 95 #[.pointer (some ⟨g, 0, none⟩)] w fun e w' => e = .returned (.string (ofL (whole size c f))) ∧ Chg (PS g bb) w w' := by
  have HT := Lib.hid (done_text size c f hfit)
  have hlen := h.len
  obtain ⟨bs, hbs⟩ : ∃ bs, bs = c ++ (List.replicate (size - 4 - c.length - f.length) 0 ++ (f ++ [0, 0, 0, 0])) := ⟨_, rfl⟩
  rw [← hbs] at h HT hlen
  obtain ⟨r, hr⟩ : ∃ r, r = c.length := ⟨_, rfl⟩
  obtain ⟨l, hl⟩ : ∃ l, l = size - 4 - f.length := ⟨_, rfl⟩
  rw [← hr, ← hl] at h HT
  have hr' : r ≤ l := by omega
  have hl' : l ≤ 1000 := by omega
  have h4 : 4 ≤ size := by omega
  have hne := h.ne
  have hcf := cell_of_row _ _ 0 _ _ _ h.fld
  have hcl := cell_of_row _ _ 1 _ _ _ h.fld
  have hcr := cell_of_row _ _ 2 _ _ _ h.fld
  have H := Lib.hid h
  clear h hbs hr hl hlen hfit
  go_enter Tryd.func95, Tryd.ntmps95
  go_wp2
  go_region_held3 (fun w' => w'.cell? ⟨g, 0, none⟩ = some (.slice (some ⟨bb, 0, none⟩) size size) ∧ w'.cell? ⟨g, 2, none⟩ = some (.int .i64 r)) (first | go_keep | exact ⟨by rw [cell_of_row _ _ 0 _ _ _ hp.fld]; rfl, by rw [cell_of_row _ _ 2 _ _ _ hp.fld]; rfl⟩) (first | (go_at_call 136; refine (two_at _ g bb size _ l r (size - 4) r _ _ (by rw [IntKind.wrap_i64]; omega) rfl H.out.drew (by omega) hs (by omega)).mono ?_; rintro e w2 ⟨rfl, hp, hch⟩))
  have d0 := cell_of_row _ _ 0 _ _ _ hp.fld
  have d1 := cell_of_row _ _ 1 _ _ _ hp.fld
  have d2 := cell_of_row _ _ 2 _ _ _ hp.fld
  have HP := Lib.hid hp
  have HCH := Lib.hid hch
  clear hcf hcl hcr hp hch
  go_wp2
  go_region_held3 (fun w' => w'.cell? ⟨g, 0, none⟩ = some (.slice (some ⟨bb, 0, none⟩) size size) ∧ w'.cell? ⟨g, 1, none⟩ = some (.int .i64 l) ∧ w'.cell? ⟨g, 2, none⟩ = some (.int .i64 r)) (first | go_keep | exact ⟨by rw [cell_of_row _ _ 0 _ _ _ hp.fld]; rfl, by rw [cell_of_row _ _ 1 _ _ _ hp.fld]; rfl, by rw [cell_of_row _ _ 2 _ _ _ hp.fld]; rfl⟩) (first | (go_at_call 136; refine (two_at _ g bb size _ l r (size - 2) (l - r) _ _ (by rw [IntKind.wrap_i64]; omega) (by rw [IntKind.wrap_i64]; omega) HP.out.drew (by omega) hs (by omega)).mono ?_; rintro e w3 ⟨rfl, hp, hch⟩))
  have HL := Lib.hid hp.len
  have hcv := conv_bytes w3 bb 0 size (set2 (set2 bs (size - 4) r) (size - 2) (l - r)) (fun i hi => by
    rw [Nat.zero_add, cell_of_row _ _ i _ _ _ hp.row, u8s_get _ _ hi])
  rw [HL.out, HT.out] at hcv
  have e0 := cell_of_row _ _ 0 _ _ _ hp.fld
  have HCH2 := Lib.hid hch
  clear hp hch d0 d1 d2
  go_wp2
  go_ret
  exact ⟨rfl, ((Chg.refl _ _).drew.trans HCH.out).trans ((Chg.refl _ _).drew.trans HCH2.out)⟩
end Go.Proofs.YtnkhifgppcnmkaaDoor

/- Walks: Encode and Fits. -/
namespace Go.Proofs.YtnkhifgppcnmkaaDoor
open Go.RowKit Iv

/-- A page whose fields are f, still without contents. -/
def PgF (w : World) (g bb size : Nat) (f : List UInt8) : Prop := Pg w g bb size (List.replicate (size - 4 - f.length) 0 ++ (f ++ [0, 0, 0, 0])) (size - 4 - f.length) 0

theorem field_text (l c n : Nat) (x : List UInt8) (h : 3 ≤ l) :
    set2 ((List.replicate l (0 : UInt8) ++ x).set (l - 3) (UInt8.ofNat c)) (l - 3 + 1) n = List.replicate (l - 3) 0 ++ (fld c n ++ x) := by
  obtain ⟨k, rfl⟩ : ∃ k, l = k + 3 := ⟨l - 3, by omega⟩
  have e : List.replicate (k + 3) (0 : UInt8) ++ x = List.replicate k 0 ++ (0 :: 0 :: 0 :: x) := by
    rw [show k + 3 = k + 1 + 1 + 1 by omega, List.replicate_succ', List.replicate_succ', List.replicate_succ']
    simp
  rw [e, show k + 3 - 3 = k by omega]
  unfold set2
  rw [List.set_append_right _ _ (by rw [List.length_replicate]; omega), List.set_append_right _ _ (by rw [List.length_replicate]; omega), List.set_append_right _ _ (by rw [List.length_replicate]; omega)]
  simp only [List.length_replicate, Nat.sub_self, show k + 1 - k = 1 by omega, show k + 1 + 1 - k = 2 by omega]
  rfl

theorem fld_length (c n : Nat) : (fld c n).length = 3 := rfl

theorem fieldF_any (w : World) (g bb size : Nat) (f : List UInt8) (c n : Nat) (ci ni : Int) (hci : ci = c) (hni : ni = n) (h : PgF w g bb size f) (hf : f.length + 7 ≤ size) (hs : size ≤ 1000) (hc : c < 256) (hn : n < 65536) :
    Calls Tryd.prog 93 #[.pointer (some ⟨g, 0, none⟩), .int .u8 ci, .int .i64 ni] w fun e w' => e = .returned (.tuple #[]) ∧ PgF w' g bb size (fld c n ++ f) ∧ Chg (PS g bb) w w' := by
  subst hci
  subst hni
  refine (field_any w g bb size _ _ _ n c h (by omega) (by omega) hs hc hn).mono ?_
  rintro e w' ⟨rfl, hp, hch⟩
  refine ⟨rfl, ?_, hch⟩
  rw [field_text _ _ _ _ (by omega)] at hp
  unfold PgF
  rw [List.length_append, fld_length, show size - 4 - (3 + f.length) = size - 4 - f.length - 3 by omega, List.append_assoc]
  exact hp

/-- The variable that holds the page's address. -/
def PVar (w : World) (pv g : Nat) : Prop := w.heap[pv]? = some (.cells #[.pointer (some ⟨g, 0, none⟩)] 134 (0, 0))

theorem PVar.chg {w w' : World} {pv g bb size l r : Nat} {bs : List UInt8} (h : PVar w pv g) (hp : Pg w g bb size bs l r) (hch : Chg (PS g bb) w w') : PVar w' pv g := by
  have h1 : pv ≠ g := by
    rintro rfl
    have := h.symm.trans hp.fld
    simp at this
  have h2 : pv ≠ bb := by
    rintro rfl
    have := h.symm.trans hp.row
    simp at this
  exact (hch.block pv (blk_lt h) (fun hs => by rcases hs with hs | hs <;> contradiction)).trans h

set_option maxHeartbeats 800000 in
set_option maxRecDepth 100000 in
theorem encode1_any (w : World) (pv g bb size : Nat) (f : List UInt8) (r : Nat × Nat) (h : PgF w g bb size f) (hpv : PVar w pv g) (hf : (addRun f r).length + 4 ≤ size) (hs : size ≤ 1000) (h1 : 1 ≤ r.1) (hr1 : r.1 < 65536) (hr2 : r.2 < 65536) :
    Calls Tryd.prog 92 #[.int .i64 (r.1 : Nat), .int .i64 (r.2 : Nat), .pointer (some ⟨pv, 0, none⟩)] w fun e w' => e = .returned (.tuple #[]) ∧ PgF w' g bb size (addRun f r) ∧ PVar w' pv g ∧ Chg (PS g bb) w w' := by
  obtain ⟨n, m⟩ := r
  dsimp only at h1 hr1 hr2 ⊢
  have hcv := cell_of_row _ _ 0 _ _ _ hpv
  have hlen := addRun_length f (n, m) h1
  dsimp only at hlen
  rw [hlen] at hf
  have HP := Lib.hid h
  have HV := Lib.hid hpv
  clear h hpv
  unfold addRun
  dsimp only
  by_cases hn1 : n = 1
  · have hne : ((n : Int) == 1) = true := by simp [hn1]
    rw [if_pos hn1]
    have hmin : min n 2 = 1 := by omega
    rw [hmin] at hf
    clear hn1 hmin hlen
    go_enter Tryd.func92, Tryd.ntmps92
    go_wp2_with fail
    refine (fieldF_any _ g bb size f 0 m _ _ rfl rfl HP.out (by omega) hs (by omega) hr2).mono ?_
    rintro e w2 ⟨rfl, hp2, hch⟩
    have HP2 := Lib.hid hp2
    have HCH := Lib.hid hch
    clear hp2 hch
    go_wp2
    exact bodyPost_ret (v := .tuple #[]) (results_none rfl _ _ _) rfl ⟨rfl, HP2.out, HV.out.chg HP.out HCH.out, HCH.out⟩
  · have hne : ((n : Int) == 1) = false := by simp only [beq_eq_false_iff_ne, ne_eq]; omega
    rw [if_neg hn1]
    have hmin : min n 2 = 2 := by omega
    rw [hmin] at hf
    clear hn1 hmin hlen
    go_enter Tryd.func92, Tryd.ntmps92
    go_wp2_with fail
    refine (fieldF_any _ g bb size f 64 m _ _ rfl rfl HP.out (by omega) hs (by omega) hr2).mono ?_
    rintro e w2 ⟨rfl, hp2, hch⟩
    have hv2 := HV.out.chg HP.out hch
    have hcv2 := cell_of_row _ _ 0 _ _ _ hv2
    have HV2 := Lib.hid hv2
    have HP2 := Lib.hid hp2
    have HCH := Lib.hid hch
    clear hp2 hch hv2 hcv
    go_wp2_with fail
    refine (fieldF_any _ g bb size _ 8 n _ _ rfl rfl HP2.out (by rw [List.length_append, fld_length]; omega) hs (by omega) hr1).mono ?_
    rintro e w3 ⟨rfl, hp3, hch2⟩
    have HP3 := Lib.hid hp3
    have HCH2 := Lib.hid hch2
    clear hp3 hch2
    go_wp2
    go_end0
    exact ⟨rfl, HP3.out, HV2.out.chg HP2.out HCH2.out, HCH.out.trans HCH2.out⟩

theorem call92 (args : Array Value) (w : World) : (callFunc 92 args).run Tryd.prog w = .ok (.enter 92 args) w := by
  kernel_rfl

theorem put_text (c x : List UInt8) (z : Nat) (s : ByteArray) (h : s.size ≤ z) :
    (c ++ (List.replicate z (0 : UInt8) ++ x)).take c.length ++ s.data.toList ++ (c ++ (List.replicate z (0 : UInt8) ++ x)).drop (c.length + s.size) = (c ++ s.data.toList) ++ (List.replicate (z - s.size) 0 ++ x) := by
  rw [List.take_left, ← List.drop_drop, List.drop_left]
  congr 1
  rw [List.drop_append_of_le_length (by simpa using h), List.drop_replicate]

/-- A page with contents c and fields f. -/
def PgC (w : World) (g bb size : Nat) (c f : List UInt8) : Prop := Pg w g bb size (c ++ (List.replicate (size - 4 - c.length - f.length) 0 ++ (f ++ [0, 0, 0, 0]))) (size - 4 - f.length) c.length

theorem PgF.toC {w : World} {g bb size : Nat} {f : List UInt8} (h : PgF w g bb size f) : PgC w g bb size [] f := by
  unfold PgC
  unfold PgF at h
  simpa using h

theorem putC_any (w : World) (g bb size : Nat) (c f : List UInt8) (s : ByteArray) (h : PgC w g bb size c f) (hf : 4 + c.length + f.length + s.size ≤ size) (hs : size ≤ 1000) :
    Calls Tryd.prog 94 #[.pointer (some ⟨g, 0, none⟩), .string s] w fun e w' => e = .returned (.tuple #[]) ∧ PgC w' g bb size (c ++ s.data.toList) f ∧ Chg (PS g bb) w w' := by
  refine (put_any w g bb size _ _ _ s h (by omega) hs).mono ?_
  rintro e w' ⟨rfl, hp, hch⟩
  refine ⟨rfl, ?_, hch⟩
  rw [put_text _ _ _ _ (by omega)] at hp
  unfold PgC
  have e : s.data.toList.length = s.size := by simp
  rw [List.length_append, e, show size - 4 - (c.length + s.size) - f.length = size - 4 - c.length - f.length - s.size by omega]
  exact hp

theorem newPageF_any (size : Nat) (w : World) (hs : size ≤ 1000) (h4 : 4 ≤ size) :
    Calls Tryd.prog 90 #[.int .i64 size] w fun e w' => e = .returned (.pointer (some ⟨w.heap.size + 1, 0, none⟩)) ∧ PgF w' (w.heap.size + 1) w.heap.size size [] ∧ w'.heap.size = w.heap.size + 2 ∧ Below w.heap.size w w' := by
  refine (newPage_any size w hs h4).mono ?_
  rintro e w' ⟨rfl, hp, hz, hb⟩
  refine ⟨rfl, ?_, hz, hb⟩
  unfold PgF
  have e : List.replicate (size - 4 - ([] : List UInt8).length) (0 : UInt8) ++ ([] ++ [0, 0, 0, 0]) = List.replicate size 0 := by
    have : ([0, 0, 0, 0] : List UInt8) = List.replicate 4 0 := rfl
    rw [List.nil_append, this, List.replicate_append_replicate]
    congr 1
    simp
    omega
  rw [e]
  exact hp

theorem fields_prefix (l : List ByteArray) (k : Nat) : (((runsOf l).take k).foldl addRun []).length ≤ (fieldsOf l).length := by
  unfold fieldsOf
  conv => rhs; rw [← List.take_append_drop k (runsOf l), List.foldl_append]
  rw [foldl_fields_length ((runsOf l).drop k) (fun r hr => runs_pos l r (List.mem_of_mem_drop hr))]
  omega

theorem content_take (l : List ByteArray) (k : Nat) (h : k < l.length) : content (l.take (k + 1)) = content (l.take k) ++ (l.getD k ByteArray.empty).data.toList := by
  rw [List.take_succ_eq_append_getElem h, content_append]
  simp [content, List.getD, h]

theorem content_prefix (l : List ByteArray) (k : Nat) : (content (l.take k)).length ≤ (content l).length := by
  conv => rhs; rw [← List.take_append_drop k l, content_append, List.length_append]
  omega

set_option maxHeartbeats 3200000 in
set_option maxRecDepth 100000 in
theorem encode_any (size : Int) (A : Option Addr) (c : Nat) (l : List ByteArray) (w : World) (hl : l.length ≤ 1000) (hr : ∀ s ∈ l, s.size ≤ 1000) (hc : l.length ≤ c) (hs : StrsA w A l) :
    Calls Tryd.prog 36 #[.int .i64 size, .slice A l.length c] w fun e w' => e = .returned (.tuple #[.string (encodeOf size l).1, .int .i64 (encodeOf size l).2]) ∧ Below w.heap.size w w' := by
  have HS := Lib.hid hs
  have HR := Lib.hid hr
  have hlm : l.length ≤ maxLen := by unfold maxLen; omega
  have HLM := Lib.hid hlm
  clear hs hr hlm
  cases h1 : isSz size with
  | false =>
    have he : encodeOf size l = (ByteArray.empty, 1) := by unfold encodeOf; rw [if_pos h1]
    rw [he]
    go_enter Tryd.func36, Tryd.ntmps36
    go_wp2_with fail
    refine (isSize_any _ _).mono ?_
    rintro e w' ⟨rfl, rfl⟩
    go_wp2
    go_ret2
    exact ⟨rfl, Below.refl _ _⟩
  | true =>
    cases h2 : okRec l with
    | false =>
      have he : encodeOf size l = (ByteArray.empty, 2) := by unfold encodeOf; rw [if_neg (by simp [h1]), if_pos h2]
      rw [he]
      go_enter Tryd.func36, Tryd.ntmps36
      go_wp2_with fail
      refine (isSize_any _ _).mono ?_
      rintro e w' ⟨rfl, rfl⟩
      go_wp2_with fail
      refine (allowed_any A c l _ HLM.out HS.out).mono ?_
      rintro e w' ⟨rfl, rfl⟩
      go_wp2
      go_ret2
      exact ⟨rfl, Below.refl _ _⟩
    | true =>
      by_cases h3 : size < (szOf l : Int)
      · have he : encodeOf size l = (ByteArray.empty, 8) := by unfold encodeOf; rw [if_neg (by simp [h1]), if_neg (by simp [h2]), if_pos h3]
        rw [he]
        go_enter Tryd.func36, Tryd.ntmps36
        go_wp2_with fail
        refine (isSize_any _ _).mono ?_
        rintro e w' ⟨rfl, rfl⟩
        go_wp2_with fail
        refine (allowed_any A c l _ HLM.out HS.out).mono ?_
        rintro e w' ⟨rfl, rfl⟩
        go_wp2_with fail
        refine (size_any A c l _ hl HR.out hc HS.out).mono ?_
        rintro e w1 ⟨rfl, hb1⟩
        go_wp2
        go_ret2
        exact ⟨rfl, hb1⟩
      · have he : encodeOf size l = (ofL (whole size.toNat (content l) (fieldsOf l)), 0) := by unfold encodeOf; rw [if_neg (by simp [h1]), if_neg (by simp [h2]), if_neg h3]
        rw [he]
        obtain ⟨n, rfl, hn, hn2⟩ : ∃ n : Nat, size = n ∧ n ≤ 512 ∧ 128 ≤ n := by
          rcases isSz_cases h1 with h | h | h <;> subst h
          · exact ⟨128, rfl, by omega, by omega⟩
          · exact ⟨256, rfl, by omega, by omega⟩
          · exact ⟨512, rfl, by omega, by omega⟩
        rw [Int.toNat_natCast]
        have hsum : 4 + (content l).length + (fieldsOf l).length ≤ n := by have := sizes l; omega
        have HSUM := Lib.hid hsum
        clear hsum he
        go_enter Tryd.func36, Tryd.ntmps36
        go_wp2_with fail
        refine (isSize_any _ _).mono ?_
        rintro e w' ⟨rfl, rfl⟩
        go_wp2_with fail
        refine (allowed_any A c l _ HLM.out HS.out).mono ?_
        rintro e w' ⟨rfl, rfl⟩
        go_wp2_with fail
        refine (size_any A c l _ hl HR.out hc HS.out).mono ?_
        rintro e w1 ⟨rfl, hb1⟩
        go_wp2_with fail
        refine (newPageF_any n _ (by omega) (by omega)).mono ?_
        rintro e w2 ⟨rfl, hp2, hz2, hb2⟩
        have hb12 := bstep hb1 hb2
        have hpv2 : PVar (w2.alloc (.cells #[.pointer (some ⟨w1.heap.size + 1, 0, none⟩)] 134)) (w1.heap.size + 2) (w1.heap.size + 1) := heap_at_alloc hz2
        have hp2' : PgF (w2.alloc (.cells #[.pointer (some ⟨w1.heap.size + 1, 0, none⟩)] 134)) (w1.heap.size + 1) w1.heap.size n [] := Pg.keep hp2 (Below.heap_alloc _ _ _ (by omega)) (Below.heap_alloc _ _ _ (by omega))
        have hb2' : Below w.heap.size w (w2.alloc (.cells #[.pointer (some ⟨w1.heap.size + 1, 0, none⟩)] 134)) := hb12.alloc hb12.size _
        have hw1 := hb1.size
        have HRUNS := Lib.hid (runs_any 92 ⟨w1.heap.size + 2, 0, none⟩ A c l (w2.alloc (.cells #[.pointer (some ⟨w1.heap.size + 1, 0, none⟩)] 134)) (by omega) hc
          (fun k wr => PgF wr (w1.heap.size + 1) w1.heap.size n (((runsOf l).take k).foldl addRun []) ∧ PVar wr (w1.heap.size + 2) (w1.heap.size + 1) ∧ Below w.heap.size w wr)
          (fun k w' h => HS.out.keep h.2.2)
          (fun k w' r hk h => by
            have hmem : r ∈ runsOf l := List.mem_of_getElem? hk
            have hbd := runs_bound l 1000 HR.out r hmem
            have hpos := runs_pos l r hmem
            obtain ⟨hlt, hrk⟩ := List.getElem?_eq_some_iff.1 hk
            have hstep : ((runsOf l).take (k + 1)).foldl addRun [] = addRun (((runsOf l).take k).foldl addRun []) r := by
              rw [List.take_succ_eq_append_getElem hlt, List.foldl_append, hrk]; rfl
            have hfb := fields_prefix l (k + 1)
            rw [hstep] at hfb
            refine (encode1_any w' (w1.heap.size + 2) (w1.heap.size + 1) w1.heap.size n _ r h.1 h.2.1 (by have := HSUM.out; omega) (by omega) hpos (by omega) (by omega)).mono ?_
            rintro e w'' ⟨rfl, hp, hv, hch⟩
            refine ⟨rfl, by rw [hstep]; exact hp, hv, h.2.2.trans (hch.below (fun k hk => by rcases hk with rfl | rfl <;> omega) h.2.2.size)⟩)
          (fun k w' m h => ⟨Pg.keep h.1 rfl rfl, h.2.1, below_drewN h.2.2 m⟩)
          call92 ⟨hp2', hpv2, hb2'⟩)
        clear hp2 hb12 hpv2 hp2' hb2' hb2 hb1
        go_wp2_with fail
        refine HRUNS.out.mono ?_
        rintro e w3 ⟨rfl, hp3, hv3, hb3⟩
        clear HRUNS
        rw [List.take_length] at hp3
        have hp3' : PgC w3 (w1.heap.size + 1) w1.heap.size n [] (fieldsOf l) := PgF.toC hp3
        have HP3 := Lib.hid hp3'
        have HV3 := Lib.hid hv3
        have HB3 := Lib.hid hb3
        clear hp3 hp3' hv3 hb3
        go_wp2
        go_loopw [29] (fun i wr => ∃ k : Nat, k ≤ l.length ∧ i = .int .i64 k ∧ PgC wr (w1.heap.size + 1) w1.heap.size n (content (l.take k)) (fieldsOf l) ∧ PVar wr (w1.heap.size + 2) (w1.heap.size + 1) ∧ Below w.heap.size w wr) (fun i _ => l.length - (intOf i).toNat)
        case atStart => exact ⟨0, by omega, rfl, HP3.out, HV3.out, HB3.out⟩
        case round =>
          obtain ⟨k, hk, rfl, hp, hv, hb⟩ := hrel
          have hcv := cell_of_row _ _ 0 _ _ _ hv
          by_cases hlt : k < l.length
          · obtain ⟨b, o, rfl, hbl, hcell⟩ := (HS.out.keep hb) (by omega)
            have hck := hcell k hlt
            have HT := Lib.hid (content_take l k hlt)
            have HPF := Lib.hid (content_prefix l (k + 1))
            obtain ⟨s, hs⟩ : ∃ s, s = l.getD k ByteArray.empty := ⟨_, rfl⟩
            rw [← hs] at hck HT
            have HP := Lib.hid hp
            have HV := Lib.hid hv
            clear hp hv hcell hs
            go_wp2_with fail
            refine (putC_any _ _ _ n _ _ s HP.out (by have h1 := HSUM.out; have h2 := HPF.out; rw [HT.out, List.length_append] at h2; have e : s.data.toList.length = s.size := by simp
                                                      omega) (by omega)).mono ?_
            rintro e w4 ⟨rfl, hp4, hch⟩
            have HP4 := Lib.hid hp4
            have HCH := Lib.hid hch
            clear hp4 hch
            go_wp2
            refine ⟨⟨k + 1, by omega, by go_num, ?_, HV.out.chg HP.out HCH.out, hb.trans (HCH.out.below (fun k hk => by rcases hk with rfl | rfl <;> omega) hb.size)⟩, by simp [intOf]; omega⟩
            rw [HT.out]
            exact HP4.out
          · have hkl : k = l.length := by omega
            have HP : Hid (PgC wr (w1.heap.size + 1) w1.heap.size n (content l) (fieldsOf l)) := by
              show PgC _ _ _ _ _ _
              rw [List.take_of_length_le (by omega)] at hp
              exact hp
            clear hp hv
            go_wp2_with fail
            refine (done_any wr (w1.heap.size + 1) w1.heap.size n (content l) (fieldsOf l) HP.out HSUM.out (by omega)).mono ?_
            rintro e w4 ⟨rfl, hch⟩
            have HCH := Lib.hid hch
            clear hch
            go_wp2
            go_ret2
            exact ⟨rfl, hb.trans (HCH.out.below (fun k hk => by rcases hk with rfl | rfl <;> omega) hb.size)⟩
