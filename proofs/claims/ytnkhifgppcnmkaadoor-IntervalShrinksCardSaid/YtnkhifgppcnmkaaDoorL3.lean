/- The law IntervalShrinks, walked. -/
import Derived.Test.YtnkhifgppcnmkaaDoorL1
import Derived.Test.YtnkhifgppcnmkaaDoorIvD
namespace Go.Proofs.YtnkhifgppcnmkaaDoor
open Go.RowKit Iv

theorem StrsA.take {w : World} {A : Option Addr} {l : List ByteArray} (h : StrsA w A l) (k : Nat) : StrsA w A (l.take k) := by
  intro h0
  rw [List.length_take] at h0
  obtain ⟨b, o, rfl, hlt, hc⟩ := h (by omega)
  refine ⟨b, o, rfl, hlt, fun i hi => ?_⟩
  rw [List.length_take] at hi
  rw [hc i (by omega)]
  simp [List.getD, show i < k by omega]

set_option maxHeartbeats 6400000 in
set_option maxRecDepth 100000 in
theorem shrinks_any (size : Int) (A : Option Addr) (c : Nat) (l : List ByteArray) (w : World) (hl : l.length ≤ 9223372036854775807) (hc : l.length ≤ c) (hs : StrsA w A l) :
    Calls Tryd.prog 9 #[.int .i64 size, .slice A l.length c] w fun e w' => e = .returned (.bool true) ∧ Below w.heap.size w w' := by
  have HS := Lib.hid hs
  clear hs
  cases hsh : shortOf l with
  | false =>
    go_enter Tryd.func9, Tryd.ntmps9
    go_wp2_with fail
    refine (awake_any _).mono ?_
    rintro e w1 ⟨rfl, hb1⟩
    go_wp2_with fail
    refine (few_any A c l _ hl (HS.out.keep hb1)).mono ?_
    rintro e w2 ⟨rfl, rfl⟩
    rw [hsh]
    go_wp2
    go_ret
    exact ⟨rfl, hb1⟩
  | true =>
    by_cases hn0 : l.length = 0
    · have hd : ((l.length : Int) == 0) = true := by simp [hn0]
      have HN0 := Lib.hid hn0
      clear hn0
      go_enter Tryd.func9, Tryd.ntmps9
      go_wp2_with fail
      refine (awake_any _).mono ?_
      rintro e w1 ⟨rfl, hb1⟩
      go_wp2_with fail
      refine (few_any A c l _ hl (HS.out.keep hb1)).mono ?_
      rintro e w2 ⟨rfl, rfl⟩
      rw [hsh]
      go_wp2
      go_ret
      exact ⟨rfl, hb1⟩
    · obtain ⟨hl2, hz⟩ := short_sizes hsh
      have HSH := Lib.hid hsh
      have HL2 : Hid (l.length ≤ 1000) := by show _ ≤ _; omega
      have HZ : Hid (∀ s ∈ l, s.size ≤ 1000) := fun s hs => by have := hz s hs; omega
      clear hsh hz
      obtain ⟨n, hn⟩ : ∃ n, n = l.length := ⟨_, rfl⟩
      have HN := Lib.hid hn
      obtain ⟨b, o, rfl, hbl, hcell⟩ := HS.out (by omega)
      have HC0 := Lib.hid (hcell 0 (by omega))
      have HC1 := Lib.hid (hcell (n - 1) (by omega))
      clear hcell
      have hn1 : 1 ≤ n := by omega
      have hnz : ((n : Int) == 0) = false := by simp only [beq_eq_false_iff_ne, ne_eq]; omega
      have q1 : (1 : Int) ≤ (n : Int) := by omega
      have q2 : (n : Int) ≤ (c : Int) := by omega
      have q3 : IntKind.i64.wrap ((n : Int) - 1) = ((n - 1 : Nat) : Int) := by rw [IntWalk.i64_in _ (by omega)]; omega
      have q4 : ((n - 1 : Nat) : Int) ≤ (c : Int) := by omega
      have q5 : ((n - 1 : Nat) : Int) < (n : Int) := by omega
      have HE41 : Hid (∀ (z : Int) w', Below w.heap.size w w' → Calls Tryd.prog 41 #[.int .i64 z, .slice (some ⟨b, o, none⟩) n c] w' fun e w'' => e = .returned (.bool (fitsOf z l)) ∧ Below w'.heap.size w' w'') := by
        show ∀ _ _, _ → _
        intro z w' hb
        rw [hn]
        exact fits_any z _ c l w' HL2.out HZ.out hc (HS.out.keep hb)
      have HE39 : Hid (∀ w', Below w.heap.size w w' → Calls Tryd.prog 39 #[.slice (some ⟨b, o, none⟩) n c] w' fun e w'' => e = .returned (.int .i64 (szOf l)) ∧ Below w'.heap.size w' w'') := by
        show ∀ _, _ → _
        intro w' hb
        rw [hn]
        exact size_any _ c l w' HL2.out HZ.out hc (HS.out.keep hb)
      have HFEW : Hid (∀ w', Below w.heap.size w w' → Calls Tryd.prog 37 #[.slice (some ⟨b, o, none⟩) n c] w' fun e w'' => e = .returned (.bool true) ∧ w'' = w') := by
        show ∀ _, _ → _
        intro w' hb
        rw [hn]
        have := few_any (some ⟨b, o, none⟩) c l w' hl (HS.out.keep hb)
        rw [HSH.out] at this
        exact this
      obtain ⟨ft, hft⟩ : ∃ ft, ft = fitsOf size l := ⟨_, rfl⟩
      obtain ⟨sz, hsz⟩ : ∃ sz, sz = szOf l := ⟨_, rfl⟩
      have HFT := Lib.hid hft
      have HSZ := Lib.hid hsz
      rw [← hsz] at HE39
      clear hft hsz
      rw [← hn] at hl hc hl2 ⊢
      clear hn hn0
      go_enter Tryd.func9, Tryd.ntmps9
      go_wp2_with fail
      refine (awake_any _).mono ?_
      rintro e w1 ⟨rfl, hb1⟩
      have HB1 := Lib.hid hb1
      clear hb1
      go_wp2_with fail
      refine (HFEW.out _ HB1.out).mono ?_
      rintro e w2 ⟨rfl, rfl⟩
      go_wp2_with fail
      refine (HE41.out size _ HB1.out).mono ?_
      rintro e w3 ⟨rfl, hb3⟩
      rw [← HFT.out]
      have HB3 := Lib.hid (bstep HB1.out hb3)
      clear hb3
      go_wp2_with fail
      refine (HE39.out _ HB3.out).mono ?_
      rintro e w4 ⟨rfl, hb4⟩
      have HB4 := Lib.hid (bstep HB3.out hb4)
      clear hb4
      go_wp2
      go_region
      obtain ⟨A1, hA1⟩ : ∃ A1, A1 = (if c = 1 then some (⟨b, o, none⟩ : Addr) else some ⟨b, o + 1, none⟩) := ⟨_, rfl⟩
      rw [← hA1]
      have HS1 : Hid (StrsA w A1 (l.drop 1)) := by
        show StrsA _ _ _
        rw [hA1]
        split
        · intro h0
          rw [List.length_drop] at h0
          have := HN.out
          omega
        · exact StrsA.drop HS.out 1 (by have := HN.out; omega)
      have HS2 : Hid (StrsA w (some ⟨b, o, none⟩) (l.take (n - 1))) := StrsA.take HS.out (n - 1)
      clear hA1 q3 q4 q2 hnz
      obtain ⟨W5, hW5⟩ : ∃ W5, W5 = (w4.alloc (.cells #[.slice A1 (n - 1) (c - 1), .slice (some ⟨b, o, none⟩) (n - 1) c] 31)).drew := ⟨_, rfl⟩
      have hrow : W5.heap[w4.heap.size]? = some (.cells #[.slice A1 (n - 1) (c - 1), .slice (some ⟨b, o, none⟩) (n - 1) c] 31 (0, 0)) := by rw [hW5]; exact heap_alloc_new w4 _
      have HB5 : Hid (Below w.heap.size w W5) := by show Below _ _ _; rw [hW5]; exact (HB4.out.alloc HB4.out.size _).drew
      rw [← hW5]
      have HK0 := Lib.hid (cell_of_row _ _ 0 _ _ _ hrow)
      have HK1 := Lib.hid (cell_of_row _ _ 1 _ _ _ hrow)
      have hlr := blk_lt hrow
      clear hW5 hrow
      obtain ⟨s0, hs0⟩ : ∃ s0, s0 = l.getD 0 ByteArray.empty := ⟨_, rfl⟩
      obtain ⟨s1, hs1⟩ : ∃ s1, s1 = l.getD (n - 1) ByteArray.empty := ⟨_, rfl⟩
      have HT1 : Hid (szOf (l.drop 1) + s0.size ≤ sz) := by show _ ≤ _; rw [hs0, HSZ.out]; exact size_tail l (by have := HN.out; omega)
      have HT2 : Hid (szOf (l.take (n - 1)) + s1.size ≤ sz) := by show _ ≤ _; rw [hs1, HSZ.out, HN.out]; exact size_init l (by have := HN.out; omega)
      rw [← hs0] at HC0
      rw [← hs1] at HC1
      clear hs0 hs1
      have q6 : IntKind.i64.wrap ((n : Int) - 1) = ((n - 1 : Nat) : Int) := by rw [IntWalk.i64_in _ (by omega)]; omega
      go_wp2
      go_loopw [33] (fun x wr => ∃ k : Nat, k ≤ 2 ∧ x = .int .i64 k ∧ Below W5.heap.size W5 wr) (fun x _ => 2 - (intOf x).toNat)
      case atStart => exact ⟨0, by omega, rfl, Below.refl _ _⟩
      case round =>
        obtain ⟨k, hk, rfl, hbr⟩ := hrel
        have HBR := Lib.hid hbr
        have HBW := Lib.hid (bstep HB5.out hbr)
        clear hbr
        by_cases hk2 : k < 2
        · have hc0 := (HBW.out.cell (p := ⟨b, o + 0, none⟩) hbl).trans HC0.out
          have hc1 := (HBW.out.cell (p := ⟨b, o + (n - 1), none⟩) hbl).trans HC1.out
          have HM : Hid (∃ Am cm lm, wr.cell? ⟨w4.heap.size, k, none⟩ = some (.slice Am (n - 1) cm) ∧ lm.length = n - 1 ∧ n - 1 ≤ cm ∧ StrsA w Am lm ∧ (∀ s ∈ lm, s.size ≤ 1000) ∧ (ft = true → fitsOf size lm = true) ∧ (0 < s0.size → 0 < s1.size → szOf lm < sz)) := by
            show ∃ Am cm lm, _
            have h01 : k = 0 ∨ k = 1 := by omega
            rcases h01 with rfl | rfl
            · refine ⟨A1, c - 1, l.drop 1, (HBR.out.cell (p := ⟨w4.heap.size, 0, none⟩) hlr).trans HK0.out, by rw [List.length_drop]; have := HN.out; omega, by omega, HS1.out, fun s hs => HZ.out s (List.mem_of_mem_drop hs), fun h => ?_, fun h0 _ => by have := HT1.out; omega⟩
              exact fits_tail (by have := HN.out; omega) (HFT.out.symm.trans h)
            · refine ⟨some ⟨b, o, none⟩, c, l.take (n - 1), (HBR.out.cell (p := ⟨w4.heap.size, 1, none⟩) hlr).trans HK1.out, by rw [List.length_take]; have := HN.out; omega, by omega, HS2.out, fun s hs => HZ.out s (List.mem_of_mem_take hs), fun h => ?_, fun _ h1 => by have := HT2.out; omega⟩
              have h2 := fits_init (l := l) (size := size) (by have := HN.out; omega) (HFT.out.symm.trans h)
              rw [← HN.out] at h2
              exact h2
          obtain ⟨Am, cm, lm, hck, hlm, hcm, hsm, hzm, hfm, hlt⟩ := HM.out
          clear HM
          have HFM := Lib.hid hfm
          have HLT := Lib.hid hlt
          have HM41 : Hid (∀ w', Below w.heap.size w w' → Calls Tryd.prog 41 #[.int .i64 size, .slice Am (n - 1) cm] w' fun e w'' => e = .returned (.bool (fitsOf size lm)) ∧ Below w'.heap.size w' w'') := by
            show ∀ _, _ → _
            intro w' hb
            have := fits_any size Am cm lm w' (by omega) hzm (by omega) (hsm.keep hb)
            rwa [hlm] at this
          have HM39 : Hid (∀ w', Below w.heap.size w w' → Calls Tryd.prog 39 #[.slice Am (n - 1) cm] w' fun e w'' => e = .returned (.int .i64 (szOf lm)) ∧ Below w'.heap.size w' w'') := by
            show ∀ _, _ → _
            intro w' hb
            have := size_any Am cm lm w' (by omega) hzm (by omega) (hsm.keep hb)
            rwa [hlm] at this
          have HCC : Hid (∀ w', Below wr.heap.size wr w' → w'.cell? ⟨b, o, none⟩ = some (.string s0) ∧ w'.cell? ⟨b, o + (n - 1), none⟩ = some (.string s1)) := by
            show ∀ _, _ → _
            intro w' hb
            have hbl2 : b < wr.heap.size := Nat.lt_of_lt_of_le hbl HBW.out.size
            exact ⟨(hb.cell (p := ⟨b, o, none⟩) hbl2).trans hc0, (hb.cell (p := ⟨b, o + (n - 1), none⟩) hbl2).trans hc1⟩
          obtain ⟨zm, hzz⟩ : ∃ zm, zm = szOf lm := ⟨_, rfl⟩
          rw [← hzz] at HLT HM39
          clear hlm hcm hsm hzm hfm hlt hc0 hc1 hzz
          have q7 : ((n - 1 : Nat) : Int).toNat = n - 1 := by omega
          have q8 : (0 : Int) ≤ ((n - 1 : Nat) : Int) := by omega
          cases hftc : ft with
          | false =>
            subst hftc
            obtain ⟨e0, e1⟩ := HCC.out wr (Below.refl _ _)
            by_cases h0 : (0 : Int) < (s0.size : Int)
            · by_cases h1 : (0 : Int) < (s1.size : Int)
              · have hzlt : zm < sz := HLT.out (by omega) (by omega)
                have hzi : (zm : Int) < (sz : Int) := by omega
                have hd : decide ((sz : Int) ≤ (zm : Int)) = false := by simp only [decide_eq_false_iff_not]; omega
                have hdn : ¬ (sz : Int) ≤ (zm : Int) := by omega
                go_wp2_with fail
                refine (HM39.out _ HBW.out).mono ?_
                rintro e w6 ⟨rfl, hb6⟩
                go_wp2
                exact ⟨⟨k + 1, by omega, by go_num, bstep HBR.out hb6⟩, by simp [intOf]; omega⟩
              · have hd : decide ((0 : Int) < (s1.size : Int)) = false := by simp only [decide_eq_false_iff_not]; exact h1
                go_wp2
                exact ⟨⟨k + 1, by omega, by go_num, HBR.out⟩, by simp [intOf]; omega⟩
            · have hd : decide ((0 : Int) < (s0.size : Int)) = false := by simp only [decide_eq_false_iff_not]; exact h0
              go_wp2
              exact ⟨⟨k + 1, by omega, by go_num, HBR.out⟩, by simp [intOf]; omega⟩
          | true =>
            have hfm := HFM.out hftc
            subst hftc
            rw [hfm] at HM41
            by_cases h0 : (0 : Int) < (s0.size : Int)
            · by_cases h1 : (0 : Int) < (s1.size : Int)
              · have hzlt : zm < sz := HLT.out (by omega) (by omega)
                have hzi : (zm : Int) < (sz : Int) := by omega
                have hd : decide ((sz : Int) ≤ (zm : Int)) = false := by simp only [decide_eq_false_iff_not]; omega
                have hdn : ¬ (sz : Int) ≤ (zm : Int) := by omega
                go_wp2_with fail
                refine (HM41.out _ HBW.out).mono ?_
                rintro e w6 ⟨rfl, hb6⟩
                have HB6 := Lib.hid hb6
                obtain ⟨e0, e1⟩ := HCC.out w6 hb6
                clear hb6
                go_wp2_with fail
                refine (HM39.out _ (bstep HBW.out HB6.out)).mono ?_
                rintro e w7 ⟨rfl, hb7⟩
                go_wp2
                exact ⟨⟨k + 1, by omega, by go_num, bstep (bstep HBR.out HB6.out) hb7⟩, by simp [intOf]; omega⟩
              · have hd : decide ((0 : Int) < (s1.size : Int)) = false := by simp only [decide_eq_false_iff_not]; exact h1
                go_wp2_with fail
                refine (HM41.out _ HBW.out).mono ?_
                rintro e w6 ⟨rfl, hb6⟩
                have HB6 := Lib.hid hb6
                obtain ⟨e0, e1⟩ := HCC.out w6 hb6
                clear hb6
                go_wp2
                exact ⟨⟨k + 1, by omega, by go_num, bstep HBR.out HB6.out⟩, by simp [intOf]; omega⟩
            · have hd : decide ((0 : Int) < (s0.size : Int)) = false := by simp only [decide_eq_false_iff_not]; exact h0
              go_wp2_with fail
              refine (HM41.out _ HBW.out).mono ?_
              rintro e w6 ⟨rfl, hb6⟩
              have HB6 := Lib.hid hb6
              obtain ⟨e0, e1⟩ := HCC.out w6 hb6
              clear hb6
              go_wp2
              exact ⟨⟨k + 1, by omega, by go_num, bstep HBR.out HB6.out⟩, by simp [intOf]; omega⟩
        · obtain rfl : k = 2 := by omega
          cases hftc : ft with
          | false =>
            subst hftc
            go_wp2
            go_ret
            exact ⟨rfl, HBW.out⟩
          | true =>
            subst hftc
            have HF := Lib.hid HFT.out.symm
            by_cases h5 : size = 512
            · subst h5
              go_wp2
              go_ret
              exact ⟨rfl, HBW.out⟩
            · have hd := fits_double HF.out h5
              have hcs : size = 128 ∨ size = 256 := by
                have h1 := HF.out
                unfold fitsOf at h1
                simp only [Bool.and_eq_true] at h1
                rcases isSz_cases h1.1.1 with h | h | h
                · exact .inl h
                · exact .inr h
                · exact absurd h h5
              rcases hcs with rfl | rfl
              · have HX := Lib.hid (HE41.out 256 _ HBW.out)
                have hd2 : fitsOf 256 l = true := hd
                rw [hd2] at HX
                clear hd hd2 h5
                go_wp2_with fail
                refine HX.out.mono ?_
                rintro e w6 ⟨rfl, hb6⟩
                go_wp2
                go_ret
                exact ⟨rfl, bstep HBW.out hb6⟩
              · have HX := Lib.hid (HE41.out 512 _ HBW.out)
                have hd2 : fitsOf 512 l = true := hd
                rw [hd2] at HX
                clear hd hd2 h5
                go_wp2_with fail
                refine HX.out.mono ?_
                rintro e w6 ⟨rfl, hb6⟩
                go_wp2
                go_ret
                exact ⟨rfl, bstep HBW.out hb6⟩
end Go.Proofs.YtnkhifgppcnmkaaDoor
