/- Walks: Texts, Short, few, awake. -/
import Derived.Test.YtnkhifgppcnmkaaDoorW10
namespace Go.Proofs.YtnkhifgppcnmkaaDoor
open Go.RowKit Iv

theorem list_step (a b : List ByteArray) (k : Nat) (ha : k < a.length) (hb : k < b.length) (h : a.take k = b.take k) (he : a.getD k ByteArray.empty = b.getD k ByteArray.empty) : a.take (k + 1) = b.take (k + 1) := by
  rw [List.take_succ_eq_append_getElem ha, List.take_succ_eq_append_getElem hb, h]
  have h1 : a.getD k ByteArray.empty = a[k] := by simp [List.getD, ha]
  have h2 : b.getD k ByteArray.empty = b[k] := by simp [List.getD, hb]
  rw [h1, h2] at he
  rw [he]

set_option maxHeartbeats 1600000 in
theorem texts_any (A B : Option Addr) (ca cb : Nat) (a b : List ByteArray) (w : World) (hl : a.length ≤ 100000) (hl' : b.length ≤ 100000) (ha : StrsA w A a) (hb : StrsA w B b) :
    Calls Tryd.prog 33 #[.slice A a.length ca, .slice B b.length cb] w fun e w' => e = .returned (.bool (decide (a = b))) ∧ Below w.heap.size w w' := by
  by_cases hlen : a.length = b.length
  · obtain ⟨n, hn⟩ : ∃ n, n = a.length := ⟨_, rfl⟩
    have hnb : n = b.length := by omega
    rw [← hn] at hl ⊢
    rw [← hnb]
    have HA := Lib.hid ha
    have HB := Lib.hid hb
    have HN := Lib.hid hn
    have HNB := Lib.hid hnb
    clear ha hb hn hnb hlen hl'
    go_enter Tryd.func33, Tryd.ntmps33
    go_wp2
    go_loopw [5] (fun i wr => ∃ k m : Nat, wr = w.drewN m ∧ k ≤ n ∧ i = .int .i64 k ∧ a.take k = b.take k) (fun i _ => n - (intOf i).toNat)
    case atStart => exact ⟨0, 0, rfl, by omega, rfl, rfl⟩
    case round =>
      obtain ⟨k, m, rfl, hk, rfl, htk⟩ := hrel
      have HTK := Lib.hid htk
      clear htk
      by_cases hlt : k < n
      · obtain ⟨ba, oa, rfl, _, hca⟩ := HA.out (by have := HN.out; omega)
        obtain ⟨bb, ob, rfl, _, hcb⟩ := HB.out (by have := HNB.out; omega)
        have ha := hca k (by have := HN.out; omega)
        have hb := hcb k (by have := HNB.out; omega)
        clear hca hcb
        have HST := Lib.hid (list_step a b k (by have := HN.out; omega) (by have := HNB.out; omega) HTK.out)
        have HNE : Hid (a.getD k ByteArray.empty ≠ b.getD k ByteArray.empty → a ≠ b) := by
          show _ → _
          rintro h rfl
          exact h rfl
        obtain ⟨x, hx⟩ : ∃ x, x = a.getD k ByteArray.empty := ⟨_, rfl⟩
        obtain ⟨y, hy⟩ : ∃ y, y = b.getD k ByteArray.empty := ⟨_, rfl⟩
        rw [← hx] at ha HST HNE
        rw [← hy] at hb HST HNE
        clear hx hy
        have q1 : (k : Int) < (n : Int) := by omega
        by_cases hxy : x = y
        · have HST2 := Lib.hid (HST.out hxy)
          clear HST
          subst hxy
          go_wp2
          go_quiet (fail)
          go_wp2
          exact ⟨⟨k + 1, m + nq, rfl, by omega, by go_num, HST2.out⟩, by simp [intOf]; omega⟩
        · have hne := bytes_ne hxy
          have HX := Lib.hid (HNE.out hxy)
          clear hxy
          go_wp2
          go_quiet (fail)
          go_wp2
          go_ret
          exact ⟨ret_bool (by simp [HX.out]), below_drewN (below_drewN (Below.refl _ _) _) _⟩
      · have hkn : k = n := by omega
        have hab : a = b := by
          have := HTK.out
          rwa [List.take_of_length_le (by have := HN.out; omega), List.take_of_length_le (by have := HNB.out; omega)] at this
        go_wp2
        go_ret
        exact ⟨ret_bool (by simp [hab]), below_drewN (Below.refl _ _) _⟩
  · have hne : ((a.length : Int) != (b.length : Int)) = true := by simp; omega
    have hd : decide (a = b) = false := by
      rw [decide_eq_false_iff_not]
      rintro rfl
      exact hlen rfl
    rw [hd]
    clear hlen hd
    go_enter Tryd.func33, Tryd.ntmps33
    go_wp2
    go_ret
    exact ⟨rfl, Below.refl _ _⟩

/-- Few and not too long. -/
def shortOf (l : List ByteArray) : Bool := decide (l.length ≤ 200) && l.all fun s => decide (s.size ≤ 600)

set_option maxHeartbeats 1600000 in
theorem short_any (A : Option Addr) (c : Nat) (l : List ByteArray) (w : World) (hl : l.length ≤ 9223372036854775807) (hs : StrsA w A l) :
    Calls Tryd.prog 55 #[.slice A l.length c, .int .i64 200, .int .i64 600] w fun e w' => e = .returned (.bool (shortOf l)) ∧ w' = w := by
  by_cases h200 : l.length ≤ 200
  · have HS := Lib.hid hs
    have HSH : Hid (∀ k, k < l.length → 600 < (l.getD k ByteArray.empty).size → shortOf l = false) := by
      show ∀ _, _
      intro k hk h
      unfold shortOf
      rw [Bool.and_eq_false_iff]
      right
      rw [List.all_eq_false]
      refine ⟨l[k], List.getElem_mem hk, ?_⟩
      have h1 : l.getD k ByteArray.empty = l[k] := by simp [List.getD, hk]
      rw [h1] at h
      simp; omega
    have HOK : Hid ((∀ k, k < l.length → (l.getD k ByteArray.empty).size ≤ 600) → shortOf l = true) := by
      show _ → _
      intro h
      unfold shortOf
      rw [Bool.and_eq_true]
      refine ⟨by simpa using h200, ?_⟩
      rw [List.all_eq_true]
      intro s hs
      obtain ⟨k, hk, rfl⟩ := List.getElem_of_mem hs
      have := h k hk
      have h1 : l.getD k ByteArray.empty = l[k] := by simp [List.getD, hk]
      rw [h1] at this
      simpa using this
    clear hs hl
    obtain ⟨n, hn⟩ : ∃ n, n = l.length := ⟨_, rfl⟩
    rw [← hn] at h200 HSH HOK ⊢
    have HN := Lib.hid hn
    clear hn
    go_enter Tryd.func55, Tryd.ntmps55
    go_wp2
    go_loop [7] (fun i => ∃ k : Nat, k ≤ n ∧ i = .int .i64 k ∧ ∀ j, j < k → (l.getD j ByteArray.empty).size ≤ 600) (fun i => n - (intOf i).toNat)
    case atStart => exact ⟨0, by omega, rfl, fun j hj => by omega⟩
    case round =>
      obtain ⟨k, hk, rfl, hall⟩ := hrel
      have HALL := Lib.hid hall
      clear hall
      by_cases hlt : k < n
      · obtain ⟨b, o, rfl, _, hc⟩ := HS.out (by have := HN.out; omega)
        have hck := hc k (by have := HN.out; omega)
        clear hc
        have HBAD := Lib.hid (HSH.out k hlt)
        have HGOOD : Hid ((l.getD k ByteArray.empty).size ≤ 600 → ∀ j, j < k + 1 → (l.getD j ByteArray.empty).size ≤ 600) := by
          show _ → _
          intro h j hj
          rcases Nat.lt_or_ge j k with h1 | h1
          · exact HALL.out j h1
          · obtain rfl : j = k := by omega
            exact h
        obtain ⟨x, hx⟩ : ∃ x, x = l.getD k ByteArray.empty := ⟨_, rfl⟩
        rw [← hx] at hck HBAD HGOOD
        clear hx
        by_cases hx6 : x.size ≤ 600
        · have HG := Lib.hid (HGOOD.out hx6)
          have hx7 : (x.size : Int) ≤ 600 := by omega
          go_wp2
          exact ⟨⟨k + 1, by omega, by go_num, HG.out⟩, by simp [intOf]; omega⟩
        · have HB := Lib.hid (HBAD.out (by omega))
          have hx7 : 600 < (x.size : Int) := by omega
          clear hx6
          go_wp2
          go_ret
          exact ⟨ret_bool HB.out.symm, rfl⟩
      · have hkn : k = n := by omega
        have HT := Lib.hid (HOK.out (fun j hj => HALL.out j (by omega)))
        go_wp2
        go_ret
        exact ⟨ret_bool HT.out.symm, rfl⟩
  · have hd : shortOf l = false := by unfold shortOf; simp; omega
    rw [hd]
    have h2 : (200 : Int) < (l.length : Int) := by omega
    clear h200 hd
    go_enter Tryd.func55, Tryd.ntmps55
    go_wp2
    go_ret
    exact ⟨rfl, rfl⟩

theorem few_any (A : Option Addr) (c : Nat) (l : List ByteArray) (w : World) (hl : l.length ≤ 9223372036854775807) (hs : StrsA w A l) :
    Calls Tryd.prog 37 #[.slice A l.length c] w fun e w' => e = .returned (.bool (shortOf l)) ∧ w' = w := by
  go_enter Tryd.func37, Tryd.ntmps37
  go_wp2_with fail
  refine (short_any A c l w hl hs).mono ?_
  rintro e w' ⟨rfl, rfl⟩
  go_wp2
  go_ret
  exact ⟨rfl, rfl⟩

theorem short_sizes {l : List ByteArray} (h : shortOf l = true) : l.length ≤ 200 ∧ ∀ s ∈ l, s.size ≤ 600 := by
  unfold shortOf at h
  simpa using h

/-- The chapter's example. -/
def l3 : List ByteArray := [⟨#[97, 98]⟩, ⟨#[99, 100]⟩, ⟨#[101]⟩]
theorem runs3 : runsOf l3 = [(2, 2), (1, 1)] := by
  have hz : (ByteArray.mk #[97, 98]).size = 2 := rfl
  have hz2 : (ByteArray.mk #[101]).size = 1 := rfl
  unfold l3
  rw [runsOf_cons]
  have h1 : runLen (ByteArray.mk #[97, 98]).size [ByteArray.mk #[99, 100], ByteArray.mk #[101]] = 1 := by rfl
  rw [h1]
  show (2, 2) :: runsOf [ByteArray.mk #[101]] = _
  rw [runsOf_cons]
  have h2 : runLen (ByteArray.mk #[101]).size [] = 0 := rfl
  rw [h2]
  show (2, 2) :: (1, 1) :: runsOf [] = _
  rw [runsOf]
def E3 : ByteArray := ofL (whole 128 [97, 98, 99, 100, 101] [0, 1, 0, 8, 2, 0, 64, 2, 0])
theorem fields3 : fieldsOf l3 = [0, 1, 0, 8, 2, 0, 64, 2, 0] := by unfold fieldsOf; rw [runs3]; rfl
theorem size3 : szOf l3 = 18 := by unfold szOf; rw [runs3]; rfl
theorem encode3 : encodeOf 128 l3 = (E3, 0) := by
  unfold encodeOf
  rw [if_neg (by decide), if_neg (by decide), if_neg (by rw [size3]; decide), fields3]
  rfl
theorem decode3 : decodeOf 128 E3 = (l3, 0) := decode_encoded encode3

theorem strs3 (w : World) : StrsA (w.alloc (.cells #[.string ⟨#[97, 98]⟩, .string ⟨#[99, 100]⟩, .string ⟨#[101]⟩] 9)) (some ⟨w.heap.size, 0, none⟩) l3 := by
  intro _
  refine ⟨w.heap.size, 0, rfl, by simp, fun i hi => ?_⟩
  rw [cell_of_row _ _ _ _ _ _ (heap_alloc_new w _)]
  match i, hi with
  | 0, _ => rfl
  | 1, _ => rfl
  | 2, _ => rfl

theorem small3 : ∀ s ∈ l3, s.size ≤ 1000 := by
  intro s hs
  unfold l3 at hs
  simp only [List.mem_cons, List.mem_nil_iff, or_false] at hs
  rcases hs with rfl | rfl | rfl <;> decide

set_option maxHeartbeats 3200000 in
set_option maxRecDepth 100000 in
theorem awake_any (w : World) : Calls Tryd.prog 30 #[] w fun e w' => e = .returned (.bool true) ∧ Below w.heap.size w w' := by
  have HE : Hid (∀ w', StrsA w' (some ⟨w.heap.size, 0, none⟩) l3 → Calls Tryd.prog 36 #[.int .i64 128, .slice (some ⟨w.heap.size, 0, none⟩) 3 3] w' fun e w'' => e = .returned (.tuple #[.string E3, .int .i64 0]) ∧ Below w'.heap.size w' w'') := by
    show ∀ _, _
    intro w' h
    have := encode_any 128 (some ⟨w.heap.size, 0, none⟩) 3 l3 w' (by decide) small3 (by decide) h
    rw [encode3] at this
    exact this
  have HD : Hid (∀ w', Calls Tryd.prog 31 #[.int .i64 128, .string E3] w' fun e w'' => ∃ A c, e = .returned (.tuple #[.slice A 3 c, .int .i64 0]) ∧ StrsA w'' A l3 ∧ Below w'.heap.size w' w'') := by
    show ∀ _, _
    intro w'
    refine (decode_any 128 E3 w' (by decide +kernel)).mono ?_
    rintro e w'' ⟨A, c, he, hs, _, hb⟩
    rw [decode3] at he hs
    exact ⟨A, c, he, hs, hb⟩
  have HT : Hid (∀ (A B : Option Addr) (c : Nat) w', StrsA w' A l3 → StrsA w' B l3 → Calls Tryd.prog 33 #[.slice A 3 c, .slice B 3 3] w' fun e w'' => e = .returned (.bool true) ∧ Below w'.heap.size w' w'') := by
    show ∀ _ _ _ _, _ → _ → _
    intro A B c w' h1 h2
    have := texts_any A B c 3 l3 l3 w' (by decide) (by decide) h1 h2
    rw [decide_eq_true rfl] at this
    exact this
  have HZ : Hid (∀ (A : Option Addr) w', StrsA w' A l3 → Calls Tryd.prog 39 #[.slice A 3 3] w' fun e w'' => e = .returned (.int .i64 18) ∧ Below w'.heap.size w' w'') := by
    show ∀ _ _, _ → _
    intro A w' h
    have := size_any A 3 l3 w' (by decide) small3 (by decide) h
    rw [size3] at this
    exact this
  have HC : Hid (∀ w', Calls Tryd.prog 48 #[.int .i64 128, .int .i64 10] w' fun e w'' => e = .returned (.int .i64 9) ∧ w' = w'') := by
    show ∀ _, _
    intro w'
    exact slotCount_any 128 10 w'
  have hz : (E3.size : Int) = 128 := by decide +kernel
  have hx1 : ((E3.extract 0 5).toList == [97, 98, 99, 100, 101]) = true := by rw [ByteArray.toList_eq]; decide +kernel
  have hx2 : ((E3.extract 115 E3.size).toList == [0, 1, 0, 8, 2, 0, 64, 2, 0, 5, 0, 110, 0]) = true := by rw [ByteArray.toList_eq]; decide +kernel
  go_enter Tryd.func30, Tryd.ntmps30
  go_wp2_with fail
  refine (HE.out _ (strs3 w)).mono ?_
  rintro e w1 ⟨rfl, hb1⟩
  have HB1 := Lib.hid hb1
  clear hb1
  go_wp2_with fail
  refine (HD.out _).mono ?_
  rintro e w2 ⟨A, c, rfl, hs, hb2⟩
  have HB2 := Lib.hid (bstep (((Below.refl _ w).alloc (Nat.le_refl _) _).trans (HB1.out.mono (by simp))) hb2)
  have HS := Lib.hid hs
  clear hb2 hs
  go_wp2_with fail
  refine (HT.out _ _ _ _ (HS.out.keep (Below.alloc (Below.refl _ _) (Nat.le_refl _) _)) (strs3 w2)).mono ?_
  rintro e w3 ⟨rfl, hb3⟩
  have HB3 := Lib.hid (bstep HB2.out (((Below.refl _ w2).alloc (Nat.le_refl _) _).trans (hb3.mono (by simp))))
  clear hb3
  go_wp2_with fail
  refine (HZ.out _ _ (strs3 w3)).mono ?_
  rintro e w4 ⟨rfl, hb4⟩
  have HB4 := Lib.hid (bstep HB3.out (((Below.refl _ w3).alloc (Nat.le_refl _) _).trans (hb4.mono (by simp))))
  clear hb4
  go_wp2_with fail
  refine (HC.out _).mono ?_
  rintro e w5 ⟨rfl, rfl⟩
  go_wp2
  go_ret
  exact ⟨rfl, HB4.out⟩
end Go.Proofs.YtnkhifgppcnmkaaDoor
