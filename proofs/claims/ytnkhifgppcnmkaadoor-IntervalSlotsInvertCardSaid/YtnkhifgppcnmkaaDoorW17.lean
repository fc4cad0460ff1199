/- Walks: the reference's EncodeSlots. -/
import Derived.Test.YtnkhifgppcnmkaaDoorW16
namespace Go.Proofs.YtnkhifgppcnmkaaDoor
open Go.RowKit Iv

theorem slotLen_small (m n s k : Nat) (hk : k ≤ n) (h : n * m + 3 * n + 4 ≤ s) (hs : s ≤ 512) : k * m ≤ 512 ∧ 3 * k ≤ 512 := by
  have : k * m ≤ n * m := Nat.mul_le_mul_right _ hk
  omega

theorem toList_empty (r : ByteArray) (h : r.size ≠ 0) : r.toList.isEmpty = false := by
  rw [isEmpty_iff]
  cases hr : r.data.toList with
  | nil => exact absurd (by have := congrArg List.length hr; simpa using this) h
  | cons a t => rfl

set_option maxHeartbeats 6400000 in
set_option maxRecDepth 100000 in
theorem refEncSlots_any (size len : Int) (A : Option Addr) (c : Nat) (l : List Slt) (w : World) (hs : RowA w A (sltCells l)) :
    Calls Tryd.prog 44 #[.int .i64 size, .int .i64 len, .slice A l.length c] w fun e w' => e = .returned (.tuple #[.string (encSlots size len l).1, .int .i64 (encSlots size len l).2]) ∧ Below w.heap.size w w' := by
  have HS := Lib.hid hs
  clear hs
  cases h1 : lenOk size len with
  | false =>
    have he : encSlots size len l = (ByteArray.empty, 1) := by unfold encSlots; rw [if_pos h1]
    rw [he]
    go_enter Tryd.func44, Tryd.ntmps44
    go_wp2_with fail
    refine (isLength_any _ _ _).mono ?_
    rintro e w' ⟨rfl, rfl⟩
    rw [h1]
    go_wp2
    go_ret2
    exact ⟨rfl, Below.refl _ _⟩
  | true =>
    obtain ⟨s, m, n, rfl, rfl, hn, hs1, hs2, hm1, hm2, hn1, hn2, hroom, _, _⟩ := slot_nums h1
    have H1 := Lib.hid h1
    by_cases h2 : slotCount s m < (l.length : Int)
    · have he : encSlots s m l = (ByteArray.empty, 8) := by unfold encSlots; rw [if_neg (by simp [h1]), if_pos h2]
      rw [he]
      rw [hn] at h2
      have HN := Lib.hid hn
      clear hn hroom h1
      go_enter Tryd.func44, Tryd.ntmps44
      go_wp2_with fail
      refine (isLength_any _ _ _).mono ?_
      rintro e w' ⟨rfl, rfl⟩
      rw [H1.out]
      go_wp2_with fail
      refine (refSlotCount_any _ _ _).mono ?_
      rintro e w' ⟨rfl, rfl⟩
      rw [HN.out]
      go_wp2
      go_ret2
      exact ⟨rfl, Below.refl _ _⟩
    · obtain ⟨ans, hans⟩ : ∃ ans, ans = encSlots s m l := ⟨_, rfl⟩
      rw [← hans]
      have he : ans = if (sltAll l n).all (sltOk m) = false then (ByteArray.empty, 2) else (ofL (whole s (sltContent m (sltAll l n)) (sltMarks m (sltAll l n))), 0) := by
        rw [hans]; unfold encSlots; rw [if_neg (by simp [h1]), if_neg h2, hn]; rfl
      have HA := Lib.hid he
      rw [hn] at h2
      have hln : (l.length : Int) ≤ (n : Int) := by omega
      have hdec : decide (n < l.length) = false := by simp; omega
      have HN := Lib.hid hn
      have HROOM := Lib.hid hroom
      have HCNT : Hid (∀ w', Calls Tryd.prog 49 #[.int .i64 s, .int .i64 m] w' fun e w'' => e = .returned (.int .i64 n) ∧ w' = w'') := by
        show ∀ _, _
        intro w'
        have := refSlotCount_any s m w'
        rwa [hn] at this
      clear hn hroom h2 hans he h1
      go_enter Tryd.func44, Tryd.ntmps44
      go_wp2_with fail
      refine (isLength_any _ _ _).mono ?_
      rintro e w' ⟨rfl, rfl⟩
      rw [H1.out]
      go_wp2_with fail
      refine (HCNT.out _).mono ?_
      rintro e w' ⟨rfl, rfl⟩
      go_wp2
      go_loopw [8, 9, 10] (fun x y z wr => ∃ k : Nat, x = .string (ofL (sltContent m (sltAll l k))) ∧ y = .string (ofL (sltMarks m (sltAll l k))) ∧ z = .int .i64 k ∧ k ≤ n ∧ (∀ y ∈ sltAll l k, sltOk m y = true) ∧ Below w.heap.size w wr) (fun _ _ z _ => n - (intOf z).toNat)
      case atStart => exact ⟨0, rfl, rfl, rfl, Nat.zero_le _, by simp [sltAll], Below.refl _ _⟩
      case round =>
        obtain ⟨k, rfl, rfl, rfl, hk, hok, hb⟩ := hrel
        have HB := Lib.hid hb
        have HOK := Lib.hid hok
        clear hb hok
        have HCL : Hid ((sltContent m (sltAll l k)).length = k * m ∧ (sltMarks m (sltAll l k)).length = 3 * k) := by
          show _ ∧ _
          rw [sltContent_length _ _ HOK.out, sltMarks_length, sltAll_length]; exact ⟨rfl, rfl⟩
        have HSM := Lib.hid (slotLen_small m n s k hk HROOM.out hs2)
        obtain ⟨cs, hcs⟩ : ∃ cs, cs = ofL (sltContent m (sltAll l k)) := ⟨_, rfl⟩
        obtain ⟨ms, hms⟩ : ∃ ms, ms = ofL (sltMarks m (sltAll l k)) := ⟨_, rfl⟩
        have hcsz : cs.size ≤ 1000 := by rw [hcs, ofL_size, HCL.out.1]; have := HSM.out.1; omega
        have hmsz : ms.size ≤ 1000 := by rw [hms, ofL_size, HCL.out.2]; have := HSM.out.2; omega
        rw [← hcs, ← hms]
        have HCS := Lib.hid hcs
        have HMS := Lib.hid hms
        have HCZ := Lib.hid hcsz
        have HMZ := Lib.hid hmsz
        clear hcs hms hcsz hmsz
        by_cases hkn : k < n
        · obtain ⟨⟨u, r⟩, hx⟩ : ∃ x, x = sltAt l k := ⟨_, rfl⟩
          have HX := Lib.hid hx
          obtain ⟨fs, hfs⟩ : ∃ fs, fs = ofL (fld (sltMark (u, r)) m) := ⟨_, rfl⟩
          obtain ⟨s2, hs2'⟩ : ∃ s2, s2 = fs ++ ms := ⟨_, rfl⟩
          have hfz : fs.size = 3 := by rw [hfs, ofL_size]; rfl
          have ha2 : ∀ w, (Op.stringOp .add fs ms).run Tryd.prog w = .ok (.string s2) w := fun w => by rw [hs2']; exact run_string_add_sum w _ _ (by have := HMZ.out; omega)
          have HS2 : Hid (s2 = ofL (sltMarks m (sltAll l (k + 1)))) := by
            show _ = _
            rw [hs2', hfs, HMS.out, ofL_append, sltAll_succ, sltMarks_snoc, ← HX.out]
          have HFS := Lib.hid hfs
          clear hfs hs2'
          have hcell : ∀ (h : k < l.length), ∃ b o, A = some ⟨b, o, none⟩ ∧ b < wr.heap.size ∧ wr.cell? ⟨b, o + k * 2, none⟩ = some (.bool u) ∧ wr.cell? ⟨b, o + k * 2 + 1, none⟩ = some (.string r) := by
            intro h
            obtain ⟨b, o, rfl, hbl, hc1, hc2⟩ := slots_at (HS.out.keep HB.out) k h
            rw [← hx] at hc1 hc2
            exact ⟨b, o, rfl, hbl, hc1, hc2⟩
          have HCELL := Lib.hid hcell
          clear hcell
          by_cases hkl : k < l.length
          · obtain ⟨b, o, rfl, hbl, hc1, hc2⟩ := HCELL.out hkl
            clear HCELL
            cases u with
            | true =>
              by_cases hrm : r.size = m
              · have hrm1 : ((r.size : Int) == (m : Int)) = true := by simp [hrm]
                obtain ⟨s1, hs1'⟩ : ∃ s1, s1 = cs ++ r := ⟨_, rfl⟩
                have ha1 : ∀ w, (Op.stringOp .add cs r).run Tryd.prog w = .ok (.string s1) w := fun w => by rw [hs1']; exact run_string_add_sum w _ _ (by have := HCZ.out; omega)
                have HOKX : Hid (sltOk m (true, r) = true) := by show _ = _; simp [sltOk, hrm]
                have HS1 : Hid (s1 = ofL (sltContent m (sltAll l (k + 1)))) := by
                  show _ = _
                  have e1 : sltContent m [(true, r)] = r.data.toList := by simp [sltContent, sltBytes, hrm]
                  rw [hs1', HCS.out, sltAll_succ, sltContent_append, ← HX.out, e1, ← ofL_append, ofL_toList]
                have HF1 : Hid (∀ w', Calls Tryd.prog 103 #[.int .i64 0, .int .i64 m] w' fun e w'' => e = .returned (.string fs) ∧ Below w'.heap.size w' w'') := by
                  show ∀ _, _
                  intro w'; rw [HFS.out]; exact refField_any 0 m w' (by omega) (by omega)
                clear hs1' hrm hx
                have HBX := Lib.hid (HB.out.alloc HB.out.size (.cells #[.bool true, .string r] 68))
                have hs1c : (wr.alloc (.cells #[.bool true, .string r] 68)).cell? ⟨wr.heap.size, 1, none⟩ = some (.string r) := cell_of_row _ _ 1 _ _ _ (heap_alloc_new wr _)
                have hgl : wr.heap.size < (wr.alloc (.cells #[.bool true, .string r] 68)).heap.size := by simp
                go_wp2_with fail
                refine (HCNT.out _).mono ?_
                rintro e w' ⟨rfl, rfl⟩
                go_wp2
                go_region_held3 (fun w' => w'.cell? ⟨wr.heap.size, 1, none⟩ = some (.string r)) (first | exact (hBB.cell (p := ⟨wr.heap.size, 1, none⟩) hgl).trans hs1c | exact hs1c) ((go_at_call 103; with_reducible_and_instances refine (HF1.out _).mono ?_; rintro e w3 ⟨rfl, hbF⟩; first | have hBB := bstep hBB hbF | have hBB := bstep ((Below.refl _ (wr.alloc (.cells #[.bool true, .string r] 68))).drew) hbF))
                all_goals
                  go_wp2
                  refine ⟨⟨k + 1, by rw [HS1.out], by rw [HS2.out], by go_num, by omega, ?_, bstep HBX.out hBB⟩, by simp [intOf]; omega⟩
                  rw [sltAll_succ, ← HX.out]
                  intro y hy
                  rcases List.mem_append.1 hy with hy | hy
                  · exact HOK.out y hy
                  · rw [List.mem_singleton.1 hy]; exact HOKX.out
              · have hrm1 : ((r.size : Int) == (m : Int)) = false := by simp; omega
                have HBAD : Hid (ans = (ByteArray.empty, 2)) := by
                  show _ = _
                  rw [HA.out]
                  refine if_pos ?_
                  cases hall : (sltAll l n).all (sltOk m) with
                  | false => rfl
                  | true =>
                    have hok2 := sltAll_ok l m n k hkn hall
                    rw [← HX.out] at hok2
                    simp only [sltOk] at hok2
                    simp at hok2
                    omega
                clear hx
                clear hrm
                go_wp2_with fail
                refine (HCNT.out _).mono ?_
                rintro e w' ⟨rfl, rfl⟩
                go_wp2
                go_ret2
                exact ⟨by rw [HBAD.out]; rfl, HB.out.alloc HB.out.size _⟩
            | false =>
              by_cases hrm : r.size = 0
              · obtain rfl : r = ByteArray.empty := by simpa using hrm
                clear hrm
                obtain ⟨z, hz1⟩ : ∃ z, z = ofL (List.replicate m 0) := ⟨_, rfl⟩
                obtain ⟨s1, hs1'⟩ : ∃ s1, s1 = cs ++ z := ⟨_, rfl⟩
                have hzz : z.size = m := by rw [hz1, ofL_size, List.length_replicate]
                have ha1 : ∀ w, (Op.stringOp .add cs z).run Tryd.prog w = .ok (.string s1) w := fun w => by rw [hs1']; exact run_string_add_sum w _ _ (by have := HCZ.out; omega)
                have HOKX : Hid (sltOk m (false, ByteArray.empty) = true) := by show _ = _; rfl
                have HS1 : Hid (s1 = ofL (sltContent m (sltAll l (k + 1)))) := by
                  show _ = _
                  have e1 : sltContent m [(false, ByteArray.empty)] = List.replicate m 0 := by simp [sltContent, sltBytes]
                  rw [hs1', HCS.out, sltAll_succ, sltContent_append, ← HX.out, e1, ← ofL_append, hz1]
                have HF1 : Hid (∀ w', Calls Tryd.prog 103 #[.int .i64 4, .int .i64 m] w' fun e w'' => e = .returned (.string fs) ∧ Below w'.heap.size w' w'') := by
                  show ∀ _, _
                  intro w'; rw [HFS.out]; exact refField_any 4 m w' (by omega) (by omega)
                have HZR : Hid (∀ w', Calls Tryd.prog 88 #[.int .i64 m] w' fun e w'' => e = .returned (.string z) ∧ Below w'.heap.size w' w'') := by
                  show ∀ _, _
                  intro w'; rw [hz1]; exact zeros_any m w' (by omega)
                clear hs1' hz1 hzz hx
                have HBX := Lib.hid (HB.out.alloc HB.out.size (.cells #[.bool false, .string ByteArray.empty] 68))
                go_wp2_with fail
                refine (HCNT.out _).mono ?_
                rintro e w' ⟨rfl, rfl⟩
                go_wp2_with fail
                refine (HZR.out _).mono ?_
                rintro e w3 ⟨rfl, hb3⟩
                have HB3 := Lib.hid (bstep HBX.out hb3)
                clear hb3
                go_wp2_with fail
                refine (HF1.out _).mono ?_
                rintro e w4 ⟨rfl, hb4⟩
                have HB4 := Lib.hid (bstep HB3.out hb4)
                clear hb4
                go_wp2
                refine ⟨⟨k + 1, by rw [HS1.out], by rw [HS2.out], by go_num, by omega, ?_, HB4.out⟩, by simp [intOf]; omega⟩
                rw [sltAll_succ, ← HX.out]
                intro y hy
                rcases List.mem_append.1 hy with hy | hy
                · exact HOK.out y hy
                · rw [List.mem_singleton.1 hy]; exact HOKX.out
              · have hem := toList_empty r hrm
                have hem2 : (r.toList == ByteArray.empty.toList) = false := bytes_ne (fun e => hrm (by rw [e]; rfl))
                have HBAD : Hid (ans = (ByteArray.empty, 2)) := by
                  show _ = _
                  rw [HA.out]
                  refine if_pos ?_
                  cases hall : (sltAll l n).all (sltOk m) with
                  | false => rfl
                  | true =>
                    have hok2 := sltAll_ok l m n k hkn hall
                    rw [← HX.out] at hok2
                    simp only [sltOk] at hok2
                    simp at hok2
                    exact absurd (by rw [hok2]; rfl) hrm
                clear hx
                clear hrm
                go_wp2_with fail
                refine (HCNT.out _).mono ?_
                rintro e w' ⟨rfl, rfl⟩
                go_wp2
                go_ret2
                exact ⟨by rw [HBAD.out]; rfl, HB.out.alloc HB.out.size _⟩
          · have hx2 : (u, r) = (false, ByteArray.empty) := by rw [hx]; unfold sltAt noSlt; simp [List.getD, List.getElem?_eq_none (by omega : l.length ≤ k)]
            obtain ⟨rfl, rfl⟩ := Prod.mk.inj hx2
            clear hx2 HCELL
            obtain ⟨z, hz1⟩ : ∃ z, z = ofL (List.replicate m 0) := ⟨_, rfl⟩
            obtain ⟨s1, hs1'⟩ : ∃ s1, s1 = cs ++ z := ⟨_, rfl⟩
            have hzz : z.size = m := by rw [hz1, ofL_size, List.length_replicate]
            have ha1 : ∀ w, (Op.stringOp .add cs z).run Tryd.prog w = .ok (.string s1) w := fun w => by rw [hs1']; exact run_string_add_sum w _ _ (by have := HCZ.out; omega)
            have HOKX : Hid (sltOk m (false, ByteArray.empty) = true) := by show _ = _; rfl
            have HS1 : Hid (s1 = ofL (sltContent m (sltAll l (k + 1)))) := by
              show _ = _
              have e1 : sltContent m [(false, ByteArray.empty)] = List.replicate m 0 := by simp [sltContent, sltBytes]
              rw [hs1', HCS.out, sltAll_succ, sltContent_append, ← HX.out, e1, ← ofL_append, hz1]
            have HF1 : Hid (∀ w', Calls Tryd.prog 103 #[.int .i64 4, .int .i64 m] w' fun e w'' => e = .returned (.string fs) ∧ Below w'.heap.size w' w'') := by
              show ∀ _, _
              intro w'; rw [HFS.out]; exact refField_any 4 m w' (by omega) (by omega)
            have HZR : Hid (∀ w', Calls Tryd.prog 88 #[.int .i64 m] w' fun e w'' => e = .returned (.string z) ∧ Below w'.heap.size w' w'') := by
              show ∀ _, _
              intro w'; rw [hz1]; exact zeros_any m w' (by omega)
            clear hs1' hz1 hzz hx
            have HBX := Lib.hid (HB.out.alloc HB.out.size (.cells #[.bool false, .string ByteArray.empty] 68))
            go_wp2_with fail
            refine (HCNT.out _).mono ?_
            rintro e w' ⟨rfl, rfl⟩
            go_wp2_with fail
            refine (HZR.out _).mono ?_
            rintro e w3 ⟨rfl, hb3⟩
            have HB3 := Lib.hid (bstep HBX.out hb3)
            clear hb3
            go_wp2_with fail
            refine (HF1.out _).mono ?_
            rintro e w4 ⟨rfl, hb4⟩
            have HB4 := Lib.hid (bstep HB3.out hb4)
            clear hb4
            go_wp2
            refine ⟨⟨k + 1, by rw [HS1.out], by rw [HS2.out], by go_num, by omega, ?_, HB4.out⟩, by simp [intOf]; omega⟩
            rw [sltAll_succ, ← HX.out]
            intro y hy
            rcases List.mem_append.1 hy with hy | hy
            · exact HOK.out y hy
            · rw [List.mem_singleton.1 hy]; exact HOKX.out
        · obtain rfl : k = n := by omega
          have HF : Hid (ans = (ofL (whole s (sltContent m (sltAll l k)) (sltMarks m (sltAll l k))), 0)) := by
            show _ = _
            rw [HA.out]
            refine if_neg ?_
            simpa using HOK.out
          have HWH : Hid (∀ w', Calls Tryd.prog 97 #[.int .i64 s, .string cs, .string ms] w' fun e w'' => e = .returned (.string (ofL (whole s (sltContent m (sltAll l k)) (sltMarks m (sltAll l k))))) ∧ Below w'.heap.size w' w'') := by
            show ∀ _, _
            intro w'; rw [HCS.out, HMS.out]; exact whole_any s _ _ w' (by omega) (by rw [HCL.out.1, HCL.out.2]; have := HROOM.out; omega)
          go_wp2_with fail
          refine (HCNT.out _).mono ?_
          rintro e w' ⟨rfl, rfl⟩
          go_wp2_with fail
          refine (HWH.out _).mono ?_
          rintro e w3 ⟨rfl, hb3⟩
          have HB3 := Lib.hid (bstep HB.out hb3)
          clear hb3
          go_wp2
          go_ret2
          exact ⟨by rw [HF.out]; rfl, HB3.out⟩
end Go.Proofs.YtnkhifgppcnmkaaDoor
