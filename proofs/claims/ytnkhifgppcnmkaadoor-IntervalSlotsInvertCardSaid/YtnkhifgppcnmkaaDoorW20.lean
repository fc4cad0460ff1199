/- Walks: SameSlots. -/
import Derived.Test.YtnkhifgppcnmkaaDoorW19
import Derived.Test.YtnkhifgppcnmkaaDoorSeq
namespace Go.Proofs.YtnkhifgppcnmkaaDoor
open Go.RowKit Iv

theorem same_step {α : Type} (z : α) (a b : List α) (k : Nat) (ha : k < a.length) (hb : k < b.length) (h : a.take k = b.take k) (he : a.getD k z = b.getD k z) : a.take (k + 1) = b.take (k + 1) := by
  rw [List.take_succ_eq_append_getElem ha, List.take_succ_eq_append_getElem hb, h]
  simp only [List.getD, List.getElem?_eq_getElem ha, List.getElem?_eq_getElem hb, Option.getD_some] at he
  rw [he]

set_option maxHeartbeats 1600000 in
set_option maxRecDepth 100000 in
theorem sameSlots_any (A B : Option Addr) (ca cb : Nat) (a b : List Slt) (w : World) (hl : a.length ≤ 100000) (ha : RowA w A (sltCells a)) (hb : RowA w B (sltCells b)) :
    Calls Tryd.prog 47 #[.slice A a.length ca, .slice B b.length cb] w fun e w' => e = .returned (.bool (decide (a = b))) ∧ Below w.heap.size w w' := by
  have HA := Lib.hid ha
  have HB := Lib.hid hb
  clear ha hb
  by_cases hlen : a.length = b.length
  · have hne : ((a.length : Int) != (b.length : Int)) = false := by simp [hlen]
    have HL := Lib.hid hlen
    clear hlen
    go_enter Tryd.func47, Tryd.ntmps47
    go_wp2
    go_loopw [5] (fun x wr => ∃ k : Nat, x = .int .i64 k ∧ k ≤ a.length ∧ a.take k = b.take k ∧ Below w.heap.size w wr) (fun x _ => a.length - (intOf x).toNat)
    case atStart => exact ⟨0, rfl, Nat.zero_le _, by simp, Below.refl _ _⟩
    case round =>
      obtain ⟨k, rfl, hk, htk, hbw⟩ := hrel
      have HT := Lib.hid htk
      have HBW := Lib.hid hbw
      clear htk hbw
      by_cases hka : k < a.length
      · have hkb : k < b.length := by have := HL.out; omega
        obtain ⟨b1, o1, rfl, hb1, hc1, hc2⟩ := slots_at (HA.out.keep HBW.out) k hka
        obtain ⟨b2, o2, rfl, hb2, hd1, hd2⟩ := slots_at (HB.out.keep HBW.out) k hkb
        have HST : Hid (sltAt a k = sltAt b k → a.take (k + 1) = b.take (k + 1)) := fun e => same_step noSlt a b k hka hkb HT.out e
        have HNE : Hid (sltAt a k ≠ sltAt b k → a ≠ b) := fun e h => e (by rw [h])
        obtain ⟨⟨u, r⟩, hx⟩ : ∃ x, x = sltAt a k := ⟨_, rfl⟩
        obtain ⟨⟨u', r'⟩, hx'⟩ : ∃ x, x = sltAt b k := ⟨_, rfl⟩
        rw [← hx] at hc1 hc2 HST HNE
        rw [← hx'] at hd1 hd2 HST HNE
        clear hx hx'
        dsimp only at hc1 hc2 hd1 hd2
        have hneq := neq_slot u u' r r'
        by_cases he : (u, r) = (u', r')
        · have hd : decide ((u, r) = (u', r')) = true := decide_eq_true he
          rw [hd] at hneq
          have HE := Lib.hid he
          clear hd he
          go_wp2
          go_quiet (fail)
          go_wp2
          exact ⟨⟨k + 1, by go_num, by omega, HST.out HE.out, HBW.out.trans (below_drewN (Below.refl _ _) _)⟩, by simp [intOf]; omega⟩
        · have hd : decide ((u, r) = (u', r')) = false := decide_eq_false he
          rw [hd] at hneq
          have HE := Lib.hid he
          clear hd he
          go_wp2
          go_quiet (fail)
          go_wp2
          go_ret
          exact ⟨ret_bool (decide_eq_false (HNE.out HE.out)).symm, HBW.out.trans (below_drewN (Below.refl _ _) _)⟩
      · have hkb : b.length ≤ k := by have := HL.out; omega
        have HD : Hid (true = decide (a = b)) := by
          show _ = _
          have h := HT.out
          rw [List.take_of_length_le (by omega), List.take_of_length_le hkb] at h
          exact (decide_eq_true h).symm
        go_wp2
        go_ret
        exact ⟨ret_bool HD.out, HBW.out⟩
  · have hne : ((a.length : Int) != (b.length : Int)) = true := by simp only [bne_iff_ne, ne_eq]; omega
    have hd : decide (a = b) = false := decide_eq_false (fun h => hlen (by rw [h]))
    rw [hd]
    clear hlen hd
    go_enter Tryd.func47, Tryd.ntmps47
    go_wp2
    go_ret
    exact ⟨rfl, Below.refl _ _⟩
end Go.Proofs.YtnkhifgppcnmkaaDoor
