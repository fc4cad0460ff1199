/- Walks of the small functions of interval and of its reference. -/
import Derived.Test.YtnkhifgppcnmkaaDoorMem
import Derived.Test.YtnkhifgppcnmkaaDoorIvC
import Derived.WalkLawsBesides
namespace Go.Proofs.YtnkhifgppcnmkaaDoor
open Go.RowKit Iv

set_option maxHeartbeats 400000 in
theorem isSize_any (n : Int) (w : World) :
    Calls Tryd.prog 81 #[.int .i64 n] w fun e w' => e = .returned (.bool (isSz n)) ∧ w = w' := by
  go_enter Tryd.func81, Tryd.ntmps81
  go_wp2
  all_goals
    go_ret
    exact ⟨ret_bool (by unfold isSz; simp_all), rfl⟩

set_option maxHeartbeats 400000 in
theorem refIsSize_any (n : Int) (w : World) :
    Calls Tryd.prog 85 #[.int .i64 n] w fun e w' => e = .returned (.bool (isSz n)) ∧ w = w' := by
  go_enter Tryd.func85, Tryd.ntmps85
  go_wp2
  all_goals
    go_ret
    exact ⟨ret_bool (by unfold isSz; simp_all), rfl⟩

theorem okRec_take (l : List ByteArray) (k : Nat) (h : k < l.length) (ho : okRec (l.take k) = true) (h1 : 1 ≤ (l[k].size : Int)) (h2 : (l[k].size : Int) ≤ 200) : okRec (l.take (k + 1)) = true := by
  rw [okRec_iff] at ho ⊢
  rw [List.take_succ_eq_append_getElem h]
  intro s hs
  rcases List.mem_append.1 hs with hs | hs
  · exact ho s hs
  · simp only [List.mem_singleton] at hs
    subst hs
    omega

theorem okRec_bad (l : List ByteArray) (k : Nat) (h : k < l.length) (hb : (l[k].size : Int) < 1 ∨ 200 < (l[k].size : Int)) : okRec l = false := by
  cases ho : okRec l with
  | false => rfl
  | true =>
    have := (okRec_iff l).1 ho l[k] (List.getElem_mem h)
    omega

set_option maxHeartbeats 800000 in
theorem allowed_any (A : Option Addr) (c : Nat) (l : List ByteArray) (w : World) (hl : l.length ≤ maxLen) (hs : StrsA w A l) :
    Calls Tryd.prog 89 #[.slice A l.length c] w fun e w' => e = .returned (.bool (okRec l)) ∧ w = w' := by
  unfold maxLen at hl
  go_enter Tryd.func89, Tryd.ntmps89
  go_wp2
  go_loop [7] (fun i => ∃ k : Nat, k ≤ l.length ∧ i = .int .i64 k ∧ okRec (l.take k) = true) (fun i => l.length - (intOf i).toNat)
  case atStart => exact ⟨0, by omega, rfl, rfl⟩
  case round =>
    obtain ⟨k, hk, rfl, hok⟩ := hrel
    by_cases hlt : k < l.length
    · obtain ⟨b, o, rfl, hb, hc⟩ := hs (by omega)
      have hck := hc k hlt
      have HO := Lib.hid hok
      clear hc hok
      by_cases hgood : 1 ≤ (l[k].size : Int) ∧ (l[k].size : Int) ≤ 200
      · obtain ⟨h1, h2⟩ := hgood
        have HT := Lib.hid (okRec_take l k hlt HO.out h1 h2)
        go_wp2
        refine ⟨⟨k + 1, by omega, by go_num, HT.out⟩, by simp [intOf]; omega⟩
      · have hbad : (l[k].size : Int) < 1 ∨ 200 < (l[k].size : Int) := by omega
        have HB := Lib.hid (okRec_bad l k hlt hbad)
        clear hgood
        rcases hbad with h | h
        all_goals
          go_wp2
          go_ret
          exact ⟨ret_bool HB.out.symm, rfl⟩
    · go_wp2
      go_ret
      refine ⟨ret_bool ?_, rfl⟩
      rw [List.take_of_length_le (by omega)] at hok
      exact hok.symm

set_option maxHeartbeats 800000 in
theorem refAllowed_any (A : Option Addr) (c : Nat) (l : List ByteArray) (w : World) (hl : l.length ≤ maxLen) (hs : StrsA w A l) :
    Calls Tryd.prog 96 #[.slice A l.length c] w fun e w' => e = .returned (.bool (okRec l)) ∧ w = w' := by
  unfold maxLen at hl
  go_enter Tryd.func96, Tryd.ntmps96
  go_wp2
  go_loop [3] (fun i => ∃ k : Nat, k ≤ l.length ∧ i = .int .i64 k ∧ okRec (l.take k) = true) (fun i => l.length - (intOf i).toNat)
  case atStart => exact ⟨0, by omega, rfl, rfl⟩
  case round =>
    obtain ⟨k, hk, rfl, hok⟩ := hrel
    by_cases hlt : k < l.length
    · obtain ⟨b, o, rfl, hb, hc⟩ := hs (by omega)
      have hck := hc k hlt
      have HO := Lib.hid hok
      clear hc hok
      by_cases hgood : 1 ≤ (l[k].size : Int) ∧ (l[k].size : Int) ≤ 200
      · obtain ⟨h1, h2⟩ := hgood
        have HT := Lib.hid (okRec_take l k hlt HO.out h1 h2)
        go_wp2
        refine ⟨⟨k + 1, by omega, by go_num, HT.out⟩, by simp [intOf]; omega⟩
      · have hbad : (l[k].size : Int) < 1 ∨ 200 < (l[k].size : Int) := by omega
        have HB := Lib.hid (okRec_bad l k hlt hbad)
        clear hgood
        rcases hbad with h | h
        all_goals
          go_wp2
          go_ret
          exact ⟨ret_bool HB.out.symm, rfl⟩
    · go_wp2
      go_ret
      refine ⟨ret_bool ?_, rfl⟩
      rw [List.take_of_length_le (by omega)] at hok
      exact hok.symm

/-- How many slots fit. -/
def slotCount (size len : Int) : Int := if isSz size = true ∧ 1 ≤ len ∧ len ≤ 200 ∧ len ≤ size - 7 then (size - 4) / (len + 3) else 0

set_option maxHeartbeats 800000 in
theorem slotCount_any (size len : Int) (w : World) :
    Calls Tryd.prog 48 #[.int .i64 size, .int .i64 len] w fun e w' => e = .returned (.int .i64 (slotCount size len)) ∧ w = w' := by
  cases hz : isSz size with
  | false =>
    have hc : slotCount size len = 0 := by unfold slotCount; rw [if_neg]; simp [hz]
    rw [hc]
    go_enter Tryd.func48, Tryd.ntmps48
    go_wp2_with fail
    refine (isSize_any _ _).mono ?_
    rintro e w' ⟨rfl, rfl⟩
    go_wp2
    go_ret
    exact ⟨rfl, rfl⟩
  | true =>
    rcases isSz_cases hz with rfl | rfl | rfl
    · have hb : (1 ≤ len ∧ len ≤ 121) ∨ len < 1 ∨ (1 ≤ len ∧ 121 < len) := by omega
      rcases hb with ⟨h1, h2⟩ | h1 | ⟨h1, h2⟩
      · have hc : slotCount 128 len = 124 / (len + 3) := by unfold slotCount; rw [if_pos ⟨hz, by omega, by omega, by omega⟩]; rfl
        rw [hc]
        go_enter Tryd.func48, Tryd.ntmps48
        go_wp2_with fail
        refine (isSize_any _ _).mono ?_
        rintro e w' ⟨rfl, rfl⟩
        go_wp2
        go_ret
        exact ⟨rfl, rfl⟩
      · have hc : slotCount 128 len = 0 := by unfold slotCount; rw [if_neg]; omega
        rw [hc]
        go_enter Tryd.func48, Tryd.ntmps48
        go_wp2_with fail
        refine (isSize_any _ _).mono ?_
        rintro e w' ⟨rfl, rfl⟩
        go_wp2
        go_ret
        exact ⟨rfl, rfl⟩
      · have hc : slotCount 128 len = 0 := by unfold slotCount; rw [if_neg]; omega
        rw [hc]
        go_enter Tryd.func48, Tryd.ntmps48
        go_wp2_with fail
        refine (isSize_any _ _).mono ?_
        rintro e w' ⟨rfl, rfl⟩
        go_wp2
        go_ret
        exact ⟨rfl, rfl⟩
    · have hb : (1 ≤ len ∧ len ≤ 200) ∨ len < 1 ∨ (1 ≤ len ∧ 200 < len) := by omega
      rcases hb with ⟨h1, h2⟩ | h1 | ⟨h1, h2⟩
      · have hc : slotCount 256 len = 252 / (len + 3) := by unfold slotCount; rw [if_pos ⟨hz, by omega, by omega, by omega⟩]; rfl
        rw [hc]
        go_enter Tryd.func48, Tryd.ntmps48
        go_wp2_with fail
        refine (isSize_any _ _).mono ?_
        rintro e w' ⟨rfl, rfl⟩
        go_wp2
        go_ret
        exact ⟨rfl, rfl⟩
      · have hc : slotCount 256 len = 0 := by unfold slotCount; rw [if_neg]; omega
        rw [hc]
        go_enter Tryd.func48, Tryd.ntmps48
        go_wp2_with fail
        refine (isSize_any _ _).mono ?_
        rintro e w' ⟨rfl, rfl⟩
        go_wp2
        go_ret
        exact ⟨rfl, rfl⟩
      · have hc : slotCount 256 len = 0 := by unfold slotCount; rw [if_neg]; omega
        rw [hc]
        go_enter Tryd.func48, Tryd.ntmps48
        go_wp2_with fail
        refine (isSize_any _ _).mono ?_
        rintro e w' ⟨rfl, rfl⟩
        go_wp2
        go_ret
        exact ⟨rfl, rfl⟩
    · have hb : (1 ≤ len ∧ len ≤ 200) ∨ len < 1 ∨ (1 ≤ len ∧ 200 < len) := by omega
      rcases hb with ⟨h1, h2⟩ | h1 | ⟨h1, h2⟩
      · have hc : slotCount 512 len = 508 / (len + 3) := by unfold slotCount; rw [if_pos ⟨hz, by omega, by omega, by omega⟩]; rfl
        rw [hc]
        go_enter Tryd.func48, Tryd.ntmps48
        go_wp2_with fail
        refine (isSize_any _ _).mono ?_
        rintro e w' ⟨rfl, rfl⟩
        go_wp2
        go_ret
        exact ⟨rfl, rfl⟩
      · have hc : slotCount 512 len = 0 := by unfold slotCount; rw [if_neg]; omega
        rw [hc]
        go_enter Tryd.func48, Tryd.ntmps48
        go_wp2_with fail
        refine (isSize_any _ _).mono ?_
        rintro e w' ⟨rfl, rfl⟩
        go_wp2
        go_ret
        exact ⟨rfl, rfl⟩
      · have hc : slotCount 512 len = 0 := by unfold slotCount; rw [if_neg]; omega
        rw [hc]
        go_enter Tryd.func48, Tryd.ntmps48
        go_wp2_with fail
        refine (isSize_any _ _).mono ?_
        rintro e w' ⟨rfl, rfl⟩
        go_wp2
        go_ret
        exact ⟨rfl, rfl⟩

def lenOk (size len : Int) : Bool := isSz size && (decide (1 ≤ len) && decide (len ≤ 200) && decide (len ≤ size - 7))

set_option maxHeartbeats 800000 in
theorem isLength_any (size len : Int) (w : World) :
    Calls Tryd.prog 102 #[.int .i64 size, .int .i64 len] w fun e w' => e = .returned (.bool (lenOk size len)) ∧ w = w' := by
  cases hz : isSz size with
  | false =>
    have hc : lenOk size len = false := by unfold lenOk; rw [hz]; rfl
    rw [hc]
    go_enter Tryd.func102, Tryd.ntmps102
    go_wp2_with fail
    refine (refIsSize_any _ _).mono ?_
    rintro e w' ⟨rfl, rfl⟩
    go_wp2
    go_ret
    exact ⟨rfl, rfl⟩
  | true =>
    rcases isSz_cases hz with rfl | rfl | rfl
    · have hb : (1 ≤ len ∧ len ≤ 121) ∨ len < 1 ∨ (1 ≤ len ∧ 121 < len) := by omega
      rcases hb with ⟨h1, h2⟩ | h1 | ⟨h1, h2⟩
      · have hc : lenOk 128 len = true := by unfold lenOk; rw [hz]; simp; omega
        rw [hc]
        go_enter Tryd.func102, Tryd.ntmps102
        go_wp2_with fail
        refine (refIsSize_any _ _).mono ?_
        rintro e w' ⟨rfl, rfl⟩
        go_wp2
        all_goals (go_ret; first | exact ⟨rfl, rfl⟩ | exact ⟨ret_bool (by simp; omega), rfl⟩)
      · have hc : lenOk 128 len = false := by unfold lenOk; rw [hz]; simp; omega
        rw [hc]
        go_enter Tryd.func102, Tryd.ntmps102
        go_wp2_with fail
        refine (refIsSize_any _ _).mono ?_
        rintro e w' ⟨rfl, rfl⟩
        go_wp2
        all_goals (go_ret; first | exact ⟨rfl, rfl⟩ | exact ⟨ret_bool (by simp; omega), rfl⟩)
      · have hc : lenOk 128 len = false := by unfold lenOk; rw [hz]; simp; omega
        rw [hc]
        go_enter Tryd.func102, Tryd.ntmps102
        go_wp2_with fail
        refine (refIsSize_any _ _).mono ?_
        rintro e w' ⟨rfl, rfl⟩
        go_wp2
        all_goals (go_ret; first | exact ⟨rfl, rfl⟩ | exact ⟨ret_bool (by simp; omega), rfl⟩)
    · have hb : (1 ≤ len ∧ len ≤ 200) ∨ len < 1 ∨ (1 ≤ len ∧ 200 < len) := by omega
      rcases hb with ⟨h1, h2⟩ | h1 | ⟨h1, h2⟩
      · have hc : lenOk 256 len = true := by unfold lenOk; rw [hz]; simp; omega
        rw [hc]
        go_enter Tryd.func102, Tryd.ntmps102
        go_wp2_with fail
        refine (refIsSize_any _ _).mono ?_
        rintro e w' ⟨rfl, rfl⟩
        go_wp2
        all_goals (go_ret; first | exact ⟨rfl, rfl⟩ | exact ⟨ret_bool (by simp; omega), rfl⟩)
      · have hc : lenOk 256 len = false := by unfold lenOk; rw [hz]; simp; omega
        rw [hc]
        go_enter Tryd.func102, Tryd.ntmps102
        go_wp2_with fail
        refine (refIsSize_any _ _).mono ?_
        rintro e w' ⟨rfl, rfl⟩
        go_wp2
        all_goals (go_ret; first | exact ⟨rfl, rfl⟩ | exact ⟨ret_bool (by simp; omega), rfl⟩)
      · have hc : lenOk 256 len = false := by unfold lenOk; rw [hz]; simp; omega
        rw [hc]
        go_enter Tryd.func102, Tryd.ntmps102
        go_wp2_with fail
        refine (refIsSize_any _ _).mono ?_
        rintro e w' ⟨rfl, rfl⟩
        go_wp2
        all_goals (go_ret; first | exact ⟨rfl, rfl⟩ | exact ⟨ret_bool (by simp; omega), rfl⟩)
    · have hb : (1 ≤ len ∧ len ≤ 200) ∨ len < 1 ∨ (1 ≤ len ∧ 200 < len) := by omega
      rcases hb with ⟨h1, h2⟩ | h1 | ⟨h1, h2⟩
      · have hc : lenOk 512 len = true := by unfold lenOk; rw [hz]; simp; omega
        rw [hc]
        go_enter Tryd.func102, Tryd.ntmps102
        go_wp2_with fail
        refine (refIsSize_any _ _).mono ?_
        rintro e w' ⟨rfl, rfl⟩
        go_wp2
        all_goals (go_ret; first | exact ⟨rfl, rfl⟩ | exact ⟨ret_bool (by simp; omega), rfl⟩)
      · have hc : lenOk 512 len = false := by unfold lenOk; rw [hz]; simp; omega
        rw [hc]
        go_enter Tryd.func102, Tryd.ntmps102
        go_wp2_with fail
        refine (refIsSize_any _ _).mono ?_
        rintro e w' ⟨rfl, rfl⟩
        go_wp2
        all_goals (go_ret; first | exact ⟨rfl, rfl⟩ | exact ⟨ret_bool (by simp; omega), rfl⟩)
      · have hc : lenOk 512 len = false := by unfold lenOk; rw [hz]; simp; omega
        rw [hc]
        go_enter Tryd.func102, Tryd.ntmps102
        go_wp2_with fail
        refine (refIsSize_any _ _).mono ?_
        rintro e w' ⟨rfl, rfl⟩
        go_wp2
        all_goals (go_ret; first | exact ⟨rfl, rfl⟩ | exact ⟨ret_bool (by simp; omega), rfl⟩)

theorem slot_len (size len : Int) : slotCount size len = if lenOk size len = true then (size - 4) / (len + 3) else 0 := by
  unfold slotCount lenOk
  simp only [Bool.and_eq_true, decide_eq_true_eq, and_assoc]

set_option maxHeartbeats 800000 in
theorem refSlotCount_any (size len : Int) (w : World) :
    Calls Tryd.prog 49 #[.int .i64 size, .int .i64 len] w fun e w' => e = .returned (.int .i64 (slotCount size len)) ∧ w = w' := by
  rw [slot_len]
  cases hz : lenOk size len with
  | false =>
    go_enter Tryd.func49, Tryd.ntmps49
    go_wp2_with fail
    refine (isLength_any _ _ _).mono ?_
    rintro e w' ⟨rfl, rfl⟩
    go_wp2
    go_ret
    exact ⟨rfl, rfl⟩
  | true =>
    have hb : 1 ≤ len ∧ len ≤ 200 ∧ 128 ≤ size ∧ size ≤ 512 := by
      unfold lenOk at hz
      simp only [Bool.and_eq_true, decide_eq_true_eq] at hz
      have := isSz_cases hz.1
      omega
    obtain ⟨b1, b2, b3, b4⟩ := hb
    go_enter Tryd.func49, Tryd.ntmps49
    go_wp2_with fail
    refine (isLength_any _ _ _).mono ?_
    rintro e w' ⟨rfl, rfl⟩
    go_wp2
    go_ret
    exact ⟨rfl, rfl⟩
end Go.Proofs.YtnkhifgppcnmkaaDoor
