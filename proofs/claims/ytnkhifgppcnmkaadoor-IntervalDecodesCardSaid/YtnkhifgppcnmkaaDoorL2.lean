/- The law IntervalStrict, walked. -/
import Derived.Test.YtnkhifgppcnmkaaDoorL1
namespace Go.Proofs.YtnkhifgppcnmkaaDoor
open Go.RowKit Iv

/-- One byte changed. -/
def changed (d : ByteArray) (i : Nat) (t : UInt8) : ByteArray := (d.extract 0 i ++ ofL [t]) ++ d.extract (i + 1) d.size

theorem changed_size (d : ByteArray) (i : Nat) (t : UInt8) (h : i < d.size) : (changed d i t).size = d.size := by
  unfold changed
  rw [ByteArray.size_append, ByteArray.size_append, ByteArray.size_extract, ByteArray.size_extract, ofL_size]
  simp
  omega

theorem conv_one (w : World) (a : UInt8) :
    (convert 57 9 (.slice (some ⟨w.heap.size, 0, none⟩) 1 1)).run Tryd.prog (w.alloc (.cells #[.int .u8 (a.toNat : Nat)] 5)) = .ok (.string (ofL [a])) (w.alloc (.cells #[.int .u8 (a.toNat : Nat)] 5)) := by
  have h := conv_bytes (w.alloc (.cells (u8s [a]) 5)) w.heap.size 0 1 [a] (fun i hi => by
    rw [Nat.zero_add, cell_of_row _ _ _ _ _ _ (heap_alloc_new w _), u8s_get _ _ hi])
  exact h

theorem decoded_bound {size : Int} {d : ByteArray} {l : List ByteArray} (h : decodeOf size d = (l, 0)) : l.length ≤ 1000 ∧ ∀ s ∈ l, s.size ≤ 1000 := by
  obtain ⟨n, _, hn, _, hs, hok, _, hsum, _, _⟩ := encoded_holds (decode_ok h)
  refine ⟨?_, fun s hs => by have := hok s hs; omega⟩
  have hlc : ∀ m : List ByteArray, (∀ s ∈ m, 1 ≤ s.size) → m.length ≤ (content m).length := by
    intro m
    induction m with
    | nil => intro _; simp
    | cons s m ih =>
      intro hm
      rw [content_cons, List.length_append, List.length_cons]
      have h1 := hm s List.mem_cons_self
      have h2 := ih (fun t ht => hm t (List.mem_cons_of_mem _ ht))
      have e : s.data.toList.length = s.size := by simp
      omega
  have := hlc l (fun s hs => (hok s hs).1)
  omega

set_option maxHeartbeats 3200000 in
set_option maxRecDepth 100000 in
theorem strict_any (size : Int) (d : ByteArray) (at_ : Int) (to : Int) (w : World) (_hd : d.size ≤ maxLen) (hto : (Lit.int .u8 to).wf = true) :
    Calls Tryd.prog 6 #[.int .i64 size, .string d, .int .i64 at_, .int .u8 to] w fun e w' => e = .returned (.bool true) ∧ Below w.heap.size w w' := by
  by_cases h600 : d.size ≤ 600
  · by_cases h0 : at_ < 0
    · have q1 : (d.size : Int) ≤ 600 := by omega
      go_enter Tryd.func6, Tryd.ntmps6
      go_wp2_with fail
      refine (awake_any _).mono ?_
      rintro e w1 ⟨rfl, hb1⟩
      go_wp2
      go_ret
      exact ⟨rfl, hb1⟩
    · by_cases hlt : at_ < (d.size : Int)
      · obtain ⟨i, rfl⟩ : ∃ i : Nat, at_ = i := ⟨at_.toNat, by omega⟩
        have q1 : (d.size : Int) ≤ 600 := by omega
        obtain ⟨t, rfl⟩ : ∃ t : UInt8, to = (t.toNat : Nat) := by
          have hb : 0 ≤ to ∧ to ≤ 255 := bounds_u8 hto
          exact ⟨UInt8.ofNat to.toNat, by simp only [UInt8.toNat_ofNat']; omega⟩
        have HD : Hid (∀ x : ByteArray, x.size ≤ 1000 → ∀ w', Calls Tryd.prog 31 #[.int .i64 size, .string x] w' fun e w'' => DecodedTo w' (decodeOf size x) e w'') := fun x hx w' => decode_any size x w' hx
        by_cases he : (decodeOf size d).2 = 0
        · rcases hdd : decodeOf size d with ⟨l, e0⟩
          rw [hdd] at he
          obtain rfl : e0 = 0 := he
          have HENC0 := Lib.hid (decode_ok hdd)
          have HBD := Lib.hid (decoded_bound hdd)
          obtain ⟨x, hx⟩ : ∃ x, x = changed d i t := ⟨_, rfl⟩
          have hxs : x.size = d.size := by rw [hx]; exact changed_size d i t (by omega)
          have HXS := Lib.hid hxs
          have HDD : Hid (∀ w', Calls Tryd.prog 31 #[.int .i64 size, .string d] w' fun e w'' => ∃ A c, e = .returned (.tuple #[.slice A l.length c, .int .i64 0]) ∧ StrsA w'' A l ∧ l.length ≤ c ∧ Below w'.heap.size w' w'') := by
            show ∀ _, _
            intro w'
            have := HD.out d (by omega) w'
            rw [hdd] at this
            exact this
          have HDX : Hid (∀ w', Calls Tryd.prog 31 #[.int .i64 size, .string x] w' fun e w'' => DecodedTo w' (decodeOf size x) e w'') := fun w' => HD.out x (by omega) w'
          have HENC : Hid (∀ A c w', l.length ≤ c → StrsA w' A l → Calls Tryd.prog 36 #[.int .i64 size, .slice A l.length c] w' fun e w'' => e = .returned (.tuple #[.string d, .int .i64 0]) ∧ Below w'.heap.size w' w'') := by
            show ∀ _ _ _, _ → _ → _
            intro A c w' hc hs
            have := encode_any size A c l w' HBD.out.1 HBD.out.2 hc hs
            rw [HENC0.out] at this
            exact this
          have HNE : Hid (x ≠ d → ∀ m, decodeOf size x = (m, 0) → decide (l = m) = false) := by
            show _ → _
            intro hne m hm
            rw [decide_eq_false_iff_not]
            rintro rfl
            have h1 := HENC0.out
            rw [decode_ok hm] at h1
            injection h1 with h1 _
            exact hne h1
          obtain ⟨s1, hs1⟩ : ∃ y, y = d.extract 0 i := ⟨_, rfl⟩
          obtain ⟨s2, hs2⟩ : ∃ y, y = s1 ++ ofL [t] := ⟨_, rfl⟩
          have hz1 : s1.size ≤ 600 := by rw [hs1, ByteArray.size_extract]; omega
          have hz2 : s2.size ≤ 601 := by rw [hs2, ByteArray.size_append, ofL_size]; simp; omega
          have hz3 : (d.extract (i + 1) d.size).size ≤ 600 := by rw [ByteArray.size_extract]; omega
          have ha1 : ∀ w, (Op.stringOp .add (d.extract 0 i) (ofL [t])).run Tryd.prog w = .ok (.string s2) w := fun w => by rw [hs2, hs1]; exact run_string_add_sum w _ _ (by rw [← hs1, ofL_size]; simp; omega)
          have ha2 : ∀ w, (Op.stringOp .add s2 (d.extract (i + 1) d.size)).run Tryd.prog w = .ok (.string x) w := fun w => by
            rw [hx]; unfold changed; rw [← hs1, ← hs2]; exact run_string_add_sum w _ _ (by omega)
          have hcv1 := fun w => conv_one w t
          have hcv3 : ∀ w : World, (convert 57 9 (.slice (some ⟨w.heap.size, 0, none⟩) 1 1)).run Tryd.prog (w.alloc (.cells #[.int .u8 (t.toNat : Nat)] 5)).drew = .ok (.string (ofL [t])) (w.alloc (.cells #[.int .u8 (t.toNat : Nat)] 5)).drew := fun w =>
            conv_bytes (w.alloc (.cells (u8s [t]) 5)).drew w.heap.size 0 1 [t] (fun i hi => by
              show (w.alloc (.cells (u8s [t]) 5)).cell? _ = _
              rw [Nat.zero_add, cell_of_row _ _ _ _ _ _ (heap_alloc_new w _), u8s_get _ _ hi])
          have q2 : (i : Int) ≤ (d.size : Int) := by omega
          have q3 : (i : Int) + 1 ≤ (d.size : Int) := by omega
          have q4 : ((i : Int) + 1).toNat = i + 1 := by omega
          have q5 : (0 : Int) ≤ (i : Int) + 1 := by omega
          have q6 : IntKind.i64.wrap ((i : Int) + 1) = (i : Int) + 1 := by rw [IntWalk.i64_in _ (by omega)]
          clear hs1 hs2 hz1 hz2 hz3 hdd hx hxs h600
          go_enter Tryd.func6, Tryd.ntmps6
          go_wp2_with fail
          refine (awake_any _).mono ?_
          rintro e w1 ⟨rfl, hb1⟩
          go_wp2_with fail
          refine (HDD.out _).mono ?_
          rintro e w2 ⟨A, c, rfl, hsA, hlc, hb2⟩
          have HB2 := Lib.hid (bstep hb1 hb2)
          have HSA := Lib.hid hsA
          have HLC := Lib.hid hlc
          clear hb1 hb2 hsA hlc
          go_wp2_with fail
          refine (HENC.out _ _ _ HLC.out HSA.out).mono ?_
          rintro e w3 ⟨rfl, hb3⟩
          have HB3 := Lib.hid (bstep HB2.out hb3)
          have HSA3 := Lib.hid (HSA.out.keep hb3)
          clear hb3
          go_wp2
          go_region
          clear hcv1 hcv3 ha1 ha2 q2 q3 q4 q5 q6
          have HB4 : Hid (Below w.heap.size w (w3.alloc (.cells #[.int .u8 (t.toNat : Nat)] 5)).drew) := (HB3.out.alloc HB3.out.size _).drew
          have HSA4 : Hid (StrsA (w3.alloc (.cells #[.int .u8 (t.toNat : Nat)] 5)).drew A l) := HSA3.out.keep (((Below.refl _ w3).alloc (Nat.le_refl _) _).drew)
          go_wp2_with fail
          refine (HDX.out _).mono ?_
          rintro e w5 ⟨B, cb, rfl, hsB, hlB, hb5⟩
          have HB5 := Lib.hid (bstep HB4.out hb5)
          have HSA5 := Lib.hid (HSA4.out.keep hb5)
          have HSB := Lib.hid hsB
          clear hb5 hsB hlB
          rcases hdx : decodeOf size x with ⟨m, e1⟩
          rw [hdx] at HSB
          have HDXE := Lib.hid hdx
          clear hdx
          by_cases hxd : x = d
          · have hxe : (x.toList == d.toList) = true := by rw [hxd]; simp
            go_wp2
            go_ret
            exact ⟨rfl, HB5.out⟩
          · have hxe := bytes_ne hxd
            have HXD := Lib.hid hxd
            clear hxd
            by_cases he1 : e1 = 0
            · subst he1
              have HBM := Lib.hid (decoded_bound HDXE.out)
              have HF := Lib.hid (HNE.out HXD.out m HDXE.out)
              go_wp2_with fail
              refine (texts_any A B c cb l m _ (by have := HBD.out.1; omega) (by have := HBM.out.1; omega) HSA5.out HSB.out).mono ?_
              rintro e w6 ⟨rfl, hb6⟩
              rw [HF.out]
              go_wp2
              go_ret
              exact ⟨rfl, bstep HB5.out hb6⟩
            · have hen : (e1 != 0) = true := by simp [he1]
              clear he1
              go_wp2
              go_ret
              exact ⟨rfl, HB5.out⟩
        · have hnil := decode_err he
          obtain ⟨e2, he2⟩ : ∃ e2, e2 = (decodeOf size d).2 := ⟨_, rfl⟩
          have HDD : Hid (∀ w', Calls Tryd.prog 31 #[.int .i64 size, .string d] w' fun e w'' => ∃ A c, e = .returned (.tuple #[.slice A 0 c, .int .i64 e2]) ∧ Below w'.heap.size w' w'') := by
            show ∀ _, _
            intro w'
            refine (HD.out d (by omega) w').mono ?_
            rintro e w'' ⟨A, c, h, _, _, hb⟩
            rw [hnil, ← he2] at h
            exact ⟨A, c, h, hb⟩
          rw [← he2] at he
          have hen : (e2 != 0) = true := by simp [he]
          clear he he2 hnil
          go_enter Tryd.func6, Tryd.ntmps6
          go_wp2_with fail
          refine (awake_any _).mono ?_
          rintro e w1 ⟨rfl, hb1⟩
          go_wp2_with fail
          refine (HDD.out _).mono ?_
          rintro e w2 ⟨A, c, rfl, hb2⟩
          go_wp2
          go_ret
          exact ⟨rfl, bstep hb1 hb2⟩
      · have q1 : (d.size : Int) ≤ 600 := by omega
        go_enter Tryd.func6, Tryd.ntmps6
        go_wp2_with fail
        refine (awake_any _).mono ?_
        rintro e w1 ⟨rfl, hb1⟩
        go_wp2
        go_ret
        exact ⟨rfl, hb1⟩
  · have q1 : 600 < (d.size : Int) := by omega
    go_enter Tryd.func6, Tryd.ntmps6
    go_wp2_with fail
    refine (awake_any _).mono ?_
    rintro e w1 ⟨rfl, hb1⟩
    go_wp2
    go_ret
    exact ⟨rfl, hb1⟩
end Go.Proofs.YtnkhifgppcnmkaaDoor
