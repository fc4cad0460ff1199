/- The law: slots that are encoded are decoded; what is decoded is encoded as the same bytes. -/
import Derived.Test.YtnkhifgppcnmkaaDoorL5
namespace Go.Proofs.YtnkhifgppcnmkaaDoor
open Go.RowKit Iv

theorem decSlots_nil {size len : Int} {d : ByteArray} (h : (decSlots size len d).2 ≠ 0) : (decSlots size len d).1 = [] := decSlots_err h

theorem RowA.take {w : World} {A : Option Addr} {xs : List Value} (h : RowA w A xs) (k : Nat) : RowA w A (xs.take k) := by
  intro h0
  rw [List.length_take] at h0
  obtain ⟨b, o, rfl, hlt, hc⟩ := h (by omega)
  refine ⟨b, o, rfl, hlt, fun i hi => ?_⟩
  rw [List.length_take] at hi
  rw [hc i (by omega), List.getElem?_take_of_lt (by omega)]

theorem sltCells_take (l : List Slt) (k : Nat) : sltCells (l.take k) = (sltCells l).take (2 * k) := by
  by_cases hk : k ≤ l.length
  · have e : sltCells l = sltCells (l.take k) ++ sltCells (l.drop k) := by rw [← sltCells_append, List.take_append_drop]
    have hl := sltCells_length (l.take k)
    rw [List.length_take, Nat.min_eq_left hk] at hl
    rw [e, ← hl, List.take_left]
  · rw [List.take_of_length_le (by omega), List.take_of_length_le (by rw [sltCells_length]; omega)]

/-- The slots behind those that are given are unused. -/
theorem sltAll_take (l : List Slt) (n : Nat) (h : l.length ≤ n) : (sltAll l n).take l.length = l := by
  apply List.ext_getElem
  · rw [List.length_take, sltAll_length]; omega
  · intro i h1 h2
    simp [sltAll, sltAt, List.getD, h2]
theorem sltAll_behind (l : List Slt) (n i : Nat) (h : l.length ≤ i) (hi : i < n) : sltAt (sltAll l n) i = noSlt := by
  unfold sltAt
  rw [List.getD, sltAll_get _ _ _ hi, Option.getD_some]
  unfold sltAt
  rw [List.getD, List.getElem?_eq_none h]; rfl

/-- The law's last part: what is decoded is encoded as the same bytes. -/
def LastPart (size len : Int) (d : ByteArray) : Prop := (decSlots size len d).2 = 0 → encSlots size len (decSlots size len d).1 = (d, 0)

set_option maxHeartbeats 800000 in
set_option maxRecDepth 100000 in
theorem slotsInvert_any (size len : Int) (A : Option Addr) (c : Nat) (l : List Slt) (d : ByteArray) (w : World) (hl : l.length ≤ 9223372036854775807) (_hc : l.length ≤ c) (hs : RowA w A (sltCells l)) (_hd : d.size ≤ maxLen) :
    Calls Tryd.prog 11 #[.int .i64 size, .int .i64 len, .slice A l.length c, .string d] w fun e w' => e = .returned (.bool true) ∧ Below w.heap.size w w' := by
  have HS := Lib.hid hs
  clear hs _hd
  by_cases h1 : l.length ≤ 200
  · by_cases h2 : d.size ≤ 600
    · have H1 : Hid (d.size ≤ 1000) := by show _ ≤ _; omega
      have HE1 : Hid (∀ w', Below w.heap.size w w' → Calls Tryd.prog 43 #[.int .i64 size, .int .i64 len, .slice A l.length c] w' fun e w'' => e = .returned (.tuple #[.string (encSlots size len l).1, .int .i64 (encSlots size len l).2]) ∧ Below w'.heap.size w' w'') := fun w' hb => encSlots_any size len A c l w' (HS.out.keep hb)
      have HD1 : Hid (∀ w', Calls Tryd.prog 45 #[.int .i64 size, .int .i64 len, .string d] w' fun e w'' => SlotsTo w' (decSlots size len d) e w'') := fun w' => decSlots_any size len d w' H1.out
      have HLAST : Hid ((decSlots size len d).2 = 0 → encSlots size len (decSlots size len d).1 = (d, 0)) := fun h => (decSlots_ok h).1
      have HNIL : Hid ((decSlots size len d).2 ≠ 0 → (decSlots size len d).1 = []) := fun h => decSlots_err h
      obtain ⟨⟨ss, e2⟩, hss⟩ : ∃ r, r = decSlots size len d := ⟨_, rfl⟩
      rw [← hss] at HD1 HLAST HNIL
      clear hss
      cases hx : encSlots size len l with
      | mk x e1 =>
        rw [hx] at HE1
        dsimp only at HE1
        by_cases he1 : e1 = 0
        · subst he1
          obtain ⟨g1, g2, g3, g4⟩ := encSlots_ok hx
          clear g4
          have hsf := slotCount_facts g1
          have hxs := encSlots_size hx
          obtain ⟨f1, _⟩ := lenOk_facts g1
          have hdec := decSlots_encoded hx
          obtain ⟨n, hn⟩ : ∃ n : Nat, slotCount size len = n := ⟨(slotCount size len).toNat, by omega⟩
          rw [hn] at hdec g2 hsf
          rw [Int.toNat_natCast] at hdec
          have hlen := sltAll_length l n
          have htk := sltAll_take l n (by omega)
          have hbeh := sltAll_behind l n
          obtain ⟨al, hal⟩ : ∃ al, al = sltAll l n := ⟨_, rfl⟩
          rw [← hal] at hdec hlen htk hbeh
          have HX1 : Hid (x.size ≤ 1000) := by show _ ≤ _; omega
          have HD2 : Hid (∀ w', Calls Tryd.prog 45 #[.int .i64 size, .int .i64 len, .string x] w' fun e w'' => SlotsTo w' (al, 0) e w'') := by
            show ∀ _, _
            intro w'
            have := decSlots_any size len x w' HX1.out
            rwa [hdec] at this
          have hnn : ((al.length : Int) != (n : Int)) = false := by simp [hlen]
          have hln : l.length ≤ n := by omega
          have HN := Lib.hid hn
          have HLEN := Lib.hid hlen
          have HTK := Lib.hid htk
          have HBEH := Lib.hid hbeh
          have hn127 : n ≤ 127 := by omega
          clear hx g1 g2 g3 hsf hxs f1 hdec hn hlen htk hbeh hal
          go_enter Tryd.func11, Tryd.ntmps11
          go_wp2_with fail
          refine (awake_any _).mono ?_
          rintro e w1 ⟨rfl, hb1⟩
          have HB1 := Lib.hid hb1
          clear hb1
          go_wp2_with fail
          refine (slotCount_any _ _ _).mono ?_
          rintro e w2 ⟨rfl, rfl⟩
          rw [HN.out]
          go_wp2_with fail
          refine (HE1.out _ HB1.out).mono ?_
          rintro e w3 ⟨rfl, hb3⟩
          have HB3 := Lib.hid (bstep HB1.out hb3)
          clear hb3
          go_wp2_with fail
          refine (HD2.out _).mono ?_
          rintro e w5 ⟨v5, rfl, ho5, hb5⟩
          have HB5 := Lib.hid (bstep HB3.out hb5)
          obtain ⟨A5, c5, rfl, hr5, hc5⟩ := own_row ho5
          have HR5 := Lib.hid hr5
          clear hb5 ho5 hr5
          dsimp only
          dsimp only at hc5
          have hlc : l.length ≤ c5 := by have := HLEN.out; omega
          have HR5L : Hid (RowA w5 A5 (sltCells l)) := by
            show RowA _ _ _
            have := HR5.out.take (2 * l.length)
            rwa [← sltCells_take, HTK.out] at this
          go_wp2_with fail
          refine (sameSlots_any A5 A c5 c l l _ (by omega) HR5L.out (HS.out.keep HB5.out)).mono ?_
          rintro e w8 ⟨rfl, hb8⟩
          have HB8 := Lib.hid (bstep HB5.out hb8)
          have HR8 := Lib.hid (HR5.out.keep hb8)
          clear hb8
          have hdt : decide (l = l) = true := by simp
          rw [hdt]
          go_wp2
          go_loop [14] (fun i => ∃ k : Nat, l.length ≤ k ∧ k ≤ n ∧ i = .int .i64 k) (fun i => n - (intOf i).toNat)
          case atStart => exact ⟨l.length, Nat.le_refl _, hln, rfl⟩
          case round =>
            obtain ⟨k, hlk, hkn, rfl⟩ := hrel
            by_cases hlt : k < n
            · have hka : k < al.length := by have := HLEN.out; omega
              obtain ⟨b, o, rfl, hb, hc1, hc2⟩ := slots_at HR8.out k hka
              rw [HBEH.out k hlk hlt] at hc1 hc2
              have hneq := neq_slot false false ByteArray.empty ByteArray.empty
              have hdd : decide ((false, ByteArray.empty) = (false, ByteArray.empty)) = true := by simp
              rw [hdd] at hneq
              have hc1' : w8.cell? ⟨b, o + k * 2, none⟩ = some (.bool false) := hc1
              have hc2' : w8.cell? ⟨b, o + k * 2 + 1, none⟩ = some (.string ByteArray.empty) := hc2
              clear hc1 hc2 hdd
              go_wp2
              exact ⟨⟨k + 1, by omega, by omega, by go_num⟩, by simp [intOf]; omega⟩
            · go_wp2_with fail
              refine (HD1.out _).mono ?_
              rintro e w6 ⟨v6, rfl, ho6, hb6⟩
              have HB6 := Lib.hid (bstep HB8.out hb6)
              obtain ⟨A6, c6, rfl, hr6, hc6⟩ := own_row ho6
              have HR6 := Lib.hid hr6
              clear hb6 ho6 hr6
              dsimp only
              by_cases he2 : e2 = 0
              · have HENC : Hid (∀ w', Below w6.heap.size w6 w' → Calls Tryd.prog 43 #[.int .i64 size, .int .i64 len, .slice A6 ss.length c6] w' fun e w'' => e = .returned (.tuple #[.string d, .int .i64 0]) ∧ Below w'.heap.size w' w'') := by
                  show ∀ _, _
                  intro w' hw'
                  have := encSlots_any size len A6 c6 ss w' (HR6.out.keep hw')
                  rwa [HLAST.out he2] at this
                subst he2
                go_wp2_with fail
                refine (HENC.out _ (Below.refl _ _)).mono ?_
                rintro e w7 ⟨rfl, hb7⟩
                have HB7 := Lib.hid (bstep HB6.out hb7)
                clear hb7
                go_wp2
                go_ret
                exact ⟨rfl, HB7.out⟩
              · have hss : ss = [] := HNIL.out he2
                subst hss
                have hen : (e2 != 0) = true := by simp [he2]
                clear he2
                go_wp2
                go_ret
                exact ⟨rfl, HB6.out⟩
        · have hen1 : (e1 == 0) = false := by simp [he1]
          clear hx he1
          go_enter Tryd.func11, Tryd.ntmps11
          go_wp2_with fail
          refine (awake_any _).mono ?_
          rintro e w1 ⟨rfl, hb1⟩
          have HB1 := Lib.hid hb1
          clear hb1
          go_wp2_with fail
          refine (slotCount_any _ _ _).mono ?_
          rintro e w2 ⟨rfl, rfl⟩
          go_wp2_with fail
          refine (HE1.out _ HB1.out).mono ?_
          rintro e w3 ⟨rfl, hb3⟩
          have HB3 := Lib.hid (bstep HB1.out hb3)
          clear hb3
          go_wp2_with fail
          refine (HD1.out _).mono ?_
          rintro e w6 ⟨v6, rfl, ho6, hb6⟩
          have HB6 := Lib.hid (bstep HB3.out hb6)
          obtain ⟨A6, c6, rfl, hr6, hc6⟩ := own_row ho6
          have HR6 := Lib.hid hr6
          clear hb6 ho6 hr6
          dsimp only
          by_cases he2 : e2 = 0
          · have HENC : Hid (∀ w', Below w6.heap.size w6 w' → Calls Tryd.prog 43 #[.int .i64 size, .int .i64 len, .slice A6 ss.length c6] w' fun e w'' => e = .returned (.tuple #[.string d, .int .i64 0]) ∧ Below w'.heap.size w' w'') := by
              show ∀ _, _
              intro w' hw'
              have := encSlots_any size len A6 c6 ss w' (HR6.out.keep hw')
              rwa [HLAST.out he2] at this
            subst he2
            go_wp2_with fail
            refine (HENC.out _ (Below.refl _ _)).mono ?_
            rintro e w7 ⟨rfl, hb7⟩
            have HB7 := Lib.hid (bstep HB6.out hb7)
            clear hb7
            go_wp2
            go_ret
            exact ⟨rfl, HB7.out⟩
          · have hss : ss = [] := HNIL.out he2
            subst hss
            have hen : (e2 != 0) = true := by simp [he2]
            clear he2
            go_wp2
            go_ret
            exact ⟨rfl, HB6.out⟩
    · go_enter Tryd.func11, Tryd.ntmps11
      go_wp2_with fail
      refine (awake_any _).mono ?_
      rintro e w1 ⟨rfl, hb1⟩
      go_wp2
      go_ret
      exact ⟨rfl, hb1⟩
  · go_enter Tryd.func11, Tryd.ntmps11
    go_wp2_with fail
    refine (awake_any _).mono ?_
    rintro e w1 ⟨rfl, hb1⟩
    go_wp2
    go_ret
    exact ⟨rfl, hb1⟩
end Go.Proofs.YtnkhifgppcnmkaaDoor
