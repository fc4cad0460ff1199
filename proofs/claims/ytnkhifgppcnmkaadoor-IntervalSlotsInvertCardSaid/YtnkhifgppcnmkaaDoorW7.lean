/- Walks: the reference's fields, join, Size, Fits, Encode. -/
import Derived.Test.YtnkhifgppcnmkaaDoorW6
namespace Go.Proofs.YtnkhifgppcnmkaaDoor
open Go.RowKit Iv

theorem fieldsOf_snoc (l : List ByteArray) (k : Nat) (r : Nat × Nat) (h : (runsOf l)[k]? = some r) : ((runsOf l).take (k + 1)).foldl addRun [] = addRun (((runsOf l).take k).foldl addRun []) r := by
  obtain ⟨hlt, hrk⟩ := List.getElem?_eq_some_iff.1 h
  rw [List.take_succ_eq_append_getElem hlt, List.foldl_append, hrk]; rfl

theorem run_at (l : List ByteArray) (j k : Nat) (hj : j < l.length) (h : runsOf (l.drop j) = (runsOf l).drop k) :
    (runsOf l)[k]? = some (runLen (l.getD j ByteArray.empty).size (l.drop (j + 1)) + 1, (l.getD j ByteArray.empty).size) ∧
    runsOf (l.drop (j + (runLen (l.getD j ByteArray.empty).size (l.drop (j + 1)) + 1))) = (runsOf l).drop (k + 1) := by
  rw [drop_cons_getD l j hj, runsOf_cons, List.drop_drop] at h
  have h2 : (runsOf l).drop k = (runLen (l.getD j ByteArray.empty).size (l.drop (j + 1)) + 1, (l.getD j ByteArray.empty).size) :: (runsOf l).drop (k + 1) := by
    have hlt : k < (runsOf l).length := by
      rcases Nat.lt_or_ge k (runsOf l).length with h' | h'
      · exact h'
      · rw [List.drop_eq_nil_of_le h'] at h; cases h
    rw [List.drop_eq_getElem_cons hlt] at h ⊢
    injection h with h3 h4
    rw [← h3]
  rw [h2] at h
  injection h with h3 h4
  refine ⟨?_, by rw [← h4]; congr 2; omega⟩
  rw [← List.head?_drop, h2]
  rfl

set_option maxHeartbeats 6400000 in
set_option maxRecDepth 100000 in
theorem refFields_any (A : Option Addr) (c : Nat) (l : List ByteArray) (w : World) (hl : l.length ≤ 1000) (hr : ∀ s ∈ l, s.size ≤ 1000) (hs : StrsA w A l) :
    Calls Tryd.prog 99 #[.slice A l.length c] w fun e w' => e = .returned (.string (ofL (fieldsOf l))) ∧ Below w.heap.size w w' := by
  have HS := Lib.hid hs
  have HR := Lib.hid hr
  clear hs hr
  go_enter Tryd.func99, Tryd.ntmps99
  go_wp2
  go_loopw [3, 4] (fun x y wr => ∃ k j : Nat, x = .string (ofL (((runsOf l).take k).foldl addRun [])) ∧ y = .int .i64 j ∧ k ≤ (runsOf l).length ∧ j ≤ l.length ∧ runsOf (l.drop j) = (runsOf l).drop k ∧ Below w.heap.size w wr) (fun _ y _ => l.length - (intOf y).toNat)
  case atStart => exact ⟨0, 0, rfl, rfl, by omega, by omega, rfl, Below.refl _ _⟩
  case round =>
    obtain ⟨k, j, rfl, rfl, hk, hj, hrun, hb⟩ := hrel
    have HB := Lib.hid hb
    clear hb
    by_cases hlt : j < l.length
    · have HK := Lib.hid (run_at l j k hlt hrun)
      have HSK := Lib.hid (fieldsOf_snoc l k _ HK.out.1)
      have hS2 := HS.out.keep HB.out
      have HS2 := Lib.hid hS2
      obtain ⟨b, o, rfl, hbl, hcell⟩ := hS2 (by omega)
      have hcj := hcell j hlt
      have hQl := runLen_le (l.getD j ByteArray.empty).size (l.drop (j + 1))
      rw [List.length_drop] at hQl
      have HPF := Lib.hid (fields_prefix l k)
      have HPF2 := Lib.hid (fields_prefix l (k + 1))
      have HFB := Lib.hid (fields_bound l)
      obtain ⟨s, hs⟩ : ∃ s, s = l.getD j ByteArray.empty := ⟨_, rfl⟩
      have hsz : s.size ≤ 1000 := by
        rw [hs]
        have : l.getD j ByteArray.empty = l[j] := by simp [List.getD, hlt]
        rw [this]; exact HR.out _ (List.getElem_mem hlt)
      have HRUN := Lib.hid (refRun_any (some ⟨b, o, none⟩) c l j wr hl HS2.out hlt)
      rw [← hs] at hcj HK HSK hQl HRUN
      clear hs hcell hrun
      obtain ⟨Q, hQ⟩ : ∃ Q, Q = runLen s.size (l.drop (j + 1)) + 1 := ⟨_, rfl⟩
      rw [← hQ] at HK HSK HRUN
      have hQ1 : 1 ≤ Q := by omega
      have hQ2 : j + Q ≤ l.length := by omega
      clear hQ hQl
      obtain ⟨out, hout⟩ : ∃ out, out = ((runsOf l).take k).foldl addRun [] := ⟨_, rfl⟩
      rw [← hout] at HSK HPF ⊢
      clear hout
      have hol : (ofL out).size ≤ 6000 := by rw [ofL_size]; have := HPF.out; have := HFB.out; omega
      obtain ⟨os, hos⟩ : ∃ os, os = ofL out := ⟨_, rfl⟩
      rw [← hos] at hol ⊢
      have HOS := Lib.hid hos
      clear hos
      go_wp2_with fail
      refine HRUN.out.mono ?_
      rintro e w1 ⟨rfl, hb1⟩
      have hcj1 := (hb1.cell (p := ⟨b, o + j, none⟩) hbl).trans hcj
      have hbl1 : b < w1.heap.size := Nat.lt_of_lt_of_le hbl hb1.size
      clear hcj hbl
      have hkl : k + 1 ≤ (runsOf l).length := (List.getElem?_eq_some_iff.1 HK.out.1).1
      have HQ2 := Lib.hid hQ2
      have hjn : (j : Int) + (Q : Int) ≤ 1000 := by omega
      by_cases hQe : Q = 1
      · have hQd : decide ((1 : Int) < (Q : Int)) = false := by simp only [decide_eq_false_iff_not]; omega
        have hQd' : ¬ ((1 : Int) < (Q : Int)) := by omega
        have hf3 : (ofL (fld 0 s.size)).size = 3 := by rw [ofL_size]; rfl
        obtain ⟨fs, hfs⟩ : ∃ fs, fs = ofL (fld 0 s.size) := ⟨_, rfl⟩
        rw [← hfs] at hf3
        obtain ⟨s1, hs1⟩ : ∃ x, x = fs ++ os := ⟨_, rfl⟩
        have ha1 : ∀ w, (Op.stringOp .add fs os).run Tryd.prog w = .ok (.string s1) w := fun w => by
          rw [run_string_add_sum w _ _ (by omega), hs1]
        have HE : Hid (s1 = ofL (addRun out (Q, s.size))) := by
          show _ = _
          rw [hs1, hfs, HOS.out, ofL_append, hQe]; rfl
        have HF1 : Hid (∀ w', Calls Tryd.prog 103 #[.int .i64 0, .int .i64 s.size] w' fun e w'' => e = .returned (.string fs) ∧ Below w'.heap.size w' w'') := by
          show ∀ _, _
          intro w'; rw [hfs]; exact refField_any 0 s.size w' (by omega) hsz
        clear hfs hs1 hf3 hQe hQ2
        go_wp2_with fail
        refine (HF1.out _).mono ?_
        rintro e w2 ⟨rfl, hb2⟩
        go_wp2
        refine ⟨⟨k + 1, j + Q, by rw [HSK.out, HE.out], by go_num, hkl, HQ2.out, HK.out.2, bstep (bstep HB.out hb1) hb2⟩, by simp [intOf]; omega⟩
      · have hQg : 1 < (Q : Int) := by omega
        have hf3 : (ofL (fld 8 Q)).size = 3 := by rw [ofL_size]; rfl
        have hg3 : (ofL (fld 64 s.size)).size = 3 := by rw [ofL_size]; rfl
        obtain ⟨fs, hfs⟩ : ∃ fs, fs = ofL (fld 8 Q) := ⟨_, rfl⟩
        obtain ⟨gs, hgs⟩ : ∃ gs, gs = ofL (fld 64 s.size) := ⟨_, rfl⟩
        rw [← hfs] at hf3
        rw [← hgs] at hg3
        obtain ⟨s1, hs1⟩ : ∃ x, x = fs ++ gs := ⟨_, rfl⟩
        have hs1z : s1.size = fs.size + gs.size := by rw [hs1, ByteArray.size_append]
        obtain ⟨s2, hs2⟩ : ∃ x, x = s1 ++ os := ⟨_, rfl⟩
        have ha1 : ∀ w, (Op.stringOp .add fs gs).run Tryd.prog w = .ok (.string s1) w := fun w => by rw [hs1]; exact run_string_add_sum w _ _ (by omega)
        have ha2 : ∀ w, (Op.stringOp .add s1 os).run Tryd.prog w = .ok (.string s2) w := fun w => by
          rw [run_string_add_sum w _ _ (by omega), hs2]
        have HE : Hid (s2 = ofL (addRun out (Q, s.size))) := by
          show _ = _
          rw [hs2, hs1, hfs, hgs, HOS.out, ofL_append, ofL_append]
          unfold addRun
          rw [if_neg hQe, List.append_assoc]
        have HF1 : Hid (∀ w', Calls Tryd.prog 103 #[.int .i64 8, .int .i64 Q] w' fun e w'' => e = .returned (.string fs) ∧ Below w'.heap.size w' w'') := by
          show ∀ _, _
          intro w'; rw [hfs]; exact refField_any 8 Q w' (by omega) (by omega)
        have HF2 : Hid (∀ w', Calls Tryd.prog 103 #[.int .i64 64, .int .i64 s.size] w' fun e w'' => e = .returned (.string gs) ∧ Below w'.heap.size w' w'') := by
          show ∀ _, _
          intro w'; rw [hgs]; exact refField_any 64 s.size w' (by omega) hsz
        clear hs1 hs2 hfs hgs hs1z hf3 hg3 hQe hQ2
        have HB1 := Lib.hid (bstep HB.out hb1)
        clear hb1
        go_wp2
        go_region_held3 (fun w' => w'.cell? ⟨b, o + j, none⟩ = some (.string s)) (first | exact (hBB.cell (p := ⟨b, o + j, none⟩) hbl1).trans hcj1 | exact hcj1) (first | (go_at_call 103; with_reducible_and_instances refine (HF1.out _).mono ?_; rintro e w2 ⟨rfl, hbF⟩; first | have hBB := bstep hBB hbF | have hBB := bstep ((Below.refl _ w1).drew) hbF) | (go_at_call 103; with_reducible_and_instances refine (HF2.out _).mono ?_; rintro e w3 ⟨rfl, hbF⟩; first | have hBB := bstep hBB hbF | have hBB := bstep ((Below.refl _ w1).drew) hbF))
        all_goals
          go_wp2
          refine ⟨⟨k + 1, j + Q, by rw [HSK.out, HE.out], by go_num, hkl, HQ2.out, HK.out.2, bstep HB1.out hBB⟩, by simp [intOf]; omega⟩
    · have : j = l.length := by omega
      subst this
      have h := hrun
      rw [List.drop_length] at h
      rw [show runsOf [] = [] by rw [runsOf]] at h
      have hk' : (runsOf l).length ≤ k := List.drop_eq_nil_iff.1 h.symm
      obtain rfl : k = (runsOf l).length := by omega
      rw [List.take_length]
      go_wp2
      go_ret
      exact ⟨rfl, HB.out⟩
end Go.Proofs.YtnkhifgppcnmkaaDoor
