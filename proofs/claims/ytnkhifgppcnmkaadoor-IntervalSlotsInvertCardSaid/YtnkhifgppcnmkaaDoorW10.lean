/- Walks: Decode. -/
import Derived.Test.YtnkhifgppcnmkaaDoorW9
namespace Go.Proofs.YtnkhifgppcnmkaaDoor
open Go.RowKit Iv

theorem own_strs {B : Nat} {w : World} {v : Value} {l : List ByteArray} (h : OwnS B w v l) : ∃ A c, v = .slice A l.length c ∧ StrsA w A l ∧ l.length ≤ c := by
  rcases h.2 with ⟨rfl, h0⟩ | ⟨g, cap, cur, rfl, hb, hg, hnc, hcm, hcs, htake⟩
  · exact ⟨none, 0, by rw [h0], fun hp => by omega, by omega⟩
  · refine ⟨some ⟨g, 0, none⟩, cap, rfl, fun hp => ⟨g, 0, rfl, blk_lt hg, fun i hi => ?_⟩, hnc⟩
    have := World.ownsRow.cells h (g := g) rfl i (.string (l.getD i ByteArray.empty)) (by simp [List.getD, hi])
    rw [Nat.zero_add]
    have hadd : (⟨g, 0, none⟩ : Addr).add i = ⟨g, i, none⟩ := by unfold Addr.add; split <;> simp_all
    rwa [hadd] at this

/-- What Decode's caller gets: an own slice of the records, and the error. -/
def DecodedTo (w : World) (r : List ByteArray × Int) (e : Ending) (w' : World) : Prop :=
  ∃ A c, e = .returned (.tuple #[.slice A r.1.length c, .int .i64 r.2]) ∧ StrsA w' A r.1 ∧ r.1.length ≤ c ∧ Below w.heap.size w w'

theorem decoded_err (w w' : World) (k : Int) (h : Below w.heap.size w w') : DecodedTo w ([], k) (.returned (.tuple #[.slice none 0 0, .int .i64 k])) w' :=
  ⟨none, 0, rfl, fun hp => by simp at hp, by simp, h⟩

theorem takeN_sizes (size : Nat) (d : ByteArray) (m n : Nat) : ∀ (l : List ByteArray) (a : Nat) (l' : List ByteArray) (a' : Nat), takeN size d m n l a = some (l', a') → (∀ s ∈ l, s.size ≤ d.size) → ∀ s ∈ l', s.size ≤ d.size := by
  induction n with
  | zero => intro l a l' a' h hl; rw [takeN] at h; injection h with h; injection h with h1 h2; subst h1; exact hl
  | succ n ih =>
    intro l a l' a' h hl
    rw [takeN] at h
    split at h
    · cases h
    · refine ih _ _ _ _ h ?_
      intro s hs
      rcases List.mem_append.1 hs with hs | hs
      · exact hl s hs
      · rw [List.mem_singleton.1 hs, ByteArray.size_extract]
        omega

theorem bytes_ne {a b : ByteArray} (h : a ≠ b) : (a.toList == b.toList) = false := by
  rw [ByteArray.toList_eq, ByteArray.toList_eq, beq_eq_false_iff_ne]
  intro e
  exact h (ByteArray.ext (Array.toList_inj.1 e))

set_option maxHeartbeats 12800000 in
set_option maxRecDepth 100000 in
theorem decode_any (size : Int) (d : ByteArray) (w : World) (hd : d.size ≤ 1000) :
    Calls Tryd.prog 31 #[.int .i64 size, .string d] w fun e w' => DecodedTo w (decodeOf size d) e w' := by
  have hdm : d.size ≤ maxLen := by unfold maxLen; omega
  have HDM := Lib.hid hdm
  clear hdm
  cases h1 : isSz size with
  | false =>
    have he : decodeOf size d = ([], 1) := by unfold decodeOf decodeWith; rw [if_pos h1]
    rw [he]
    go_enter Tryd.func31, Tryd.ntmps31
    go_wp2_with fail
    refine (isSize_any _ _).mono ?_
    rintro e w' ⟨rfl, rfl⟩
    go_wp2
    go_ret2
    exact decoded_err _ _ _ (((Below.refl _ _).alloc (Nat.le_refl _) _).alloc (by simp) _)
  | true =>
    by_cases h2 : checkOf size d = 0
    · have h2a : (d.size : Int) = size := by
        unfold checkOf at h2
        split at h2
        · cases h2
        · omega
      have h2b : unusedOf d = false := by
        unfold checkOf at h2
        rw [if_neg (by omega)] at h2
        cases hu : unusedOf d with
        | false => rfl
        | true => rw [hu, if_pos rfl] at h2; cases h2
      obtain ⟨n, rfl, hn, hn2⟩ : ∃ n : Nat, size = n ∧ n ≤ 512 ∧ 128 ≤ n := by
        rcases isSz_cases h1 with h | h | h <;> subst h
        · exact ⟨128, rfl, by omega, by omega⟩
        · exact ⟨256, rfl, by omega, by omega⟩
        · exact ⟨512, rfl, by omega, by omega⟩
      have hdn : d.size = n := by omega
      have he : decodeOf n d = match parseP n d with | none => ([], 11) | some l => if encodeOf n l = (d, 0) then (l, 0) else ([], 11) := by
        unfold decodeOf decodeWith
        rw [if_neg (by simp [h1]), if_neg (by omega), if_neg (by simp [h2b]), Int.toNat_natCast]
        cases parseP n d <;> rfl
      obtain ⟨ans, hans⟩ : ∃ ans, ans = decodeOf n d := ⟨_, rfl⟩
      rw [← hans]
      have HA1 : Hid (parseP n d = none → ans = ([], 11)) := by
        show _ → _
        intro h; rw [hans, he, h]
      have HA2 : Hid (∀ l, parseP n d = some l → ans = if encodeOf n l = (d, 0) then (l, 0) else ([], 11)) := by
        show ∀ _, _
        intro l h; rw [hans, he, h]
      clear hans
      have HDN := Lib.hid hdn
      have HT1 : Hid (∀ w', Calls Tryd.prog 83 #[.string d, .int .i64 ((n : Int) - 4)] w' fun e w'' => e = .returned (.int .i64 (twoOf d (n - 4) : Nat)) ∧ Below w'.heap.size w' w'') := by
        show ∀ _, _
        intro w'
        have := twoAt_any d (n - 4) w' (by omega) HDM.out
        rwa [show ((n - 4 : Nat) : Int) = (n : Int) - 4 by omega] at this
      have HT2 : Hid (∀ w', Calls Tryd.prog 83 #[.string d, .int .i64 ((n : Int) - 2)] w' fun e w'' => e = .returned (.int .i64 (twoOf d (n - 2) : Nat)) ∧ Below w'.heap.size w' w'') := by
        show ∀ _, _
        intro w'
        have := twoAt_any d (n - 2) w' (by omega) HDM.out
        rwa [show ((n - 2 : Nat) : Int) = (n : Int) - 2 by omega] at this
      have HCK : Hid (∀ w', Calls Tryd.prog 82 #[.int .i64 n, .string d] w' fun e w'' => e = .returned (.int .i64 0) ∧ Below w'.heap.size w' w'') := by
        show ∀ _, _
        intro w'
        have := check_any n d w' HDM.out
        rwa [h2] at this
      have ht1 := twoOf_lt d (n - 4)
      have ht2 := twoOf_lt d (n - 2)
      clear he h2 h2a h2b hdn
      go_enter Tryd.func31, Tryd.ntmps31
      go_wp2_with fail
      refine (isSize_any _ _).mono ?_
      rintro e w' ⟨rfl, rfl⟩
      rw [h1]
      go_wp2_with fail
      refine (HCK.out _).mono ?_
      rintro e w1 ⟨rfl, hb1⟩
      have hS1 : w1.heap[w.heap.size]? = some (.cells #[.int .i64 n] 3 (0, 0)) := (hb1.block _ (by simp; omega)).trans (by rw [Below.heap_alloc _ _ _ (by simp)]; exact heap_alloc_new w _)
      have hD1 : w1.heap[w.heap.size + 1]? = some (.cells #[.string d] 9 (0, 0)) := (hb1.block _ (by simp)).trans (heap_at_alloc (by simp))
      have hbw1 : Below w.heap.size w w1 := bstep (((Below.refl _ _).alloc (Nat.le_refl _) _).alloc (by simp) _) hb1
      have HS1 := Lib.hid hS1
      have HD1 := Lib.hid hD1
      have HB1 := Lib.hid hbw1
      have hcS := cell_of_row _ _ 0 _ _ _ hS1
      have hcD := cell_of_row _ _ 0 _ _ _ hD1
      have hlS := blk_lt hS1
      have hlD := blk_lt hD1
      clear hS1 hD1 hb1 hbw1
      obtain ⟨gS, hgS⟩ : ∃ g, g = w.heap.size := ⟨_, rfl⟩
      obtain ⟨gD, hgD⟩ : ∃ g, g = w.heap.size + 1 := ⟨_, rfl⟩
      have HGS := Lib.hid hgS
      have HGD := Lib.hid hgD
      rw [← hgD] at hcD hlD HD1 ⊢
      rw [← hgS] at hcS hlS HS1 ⊢
      clear hgS hgD
      obtain ⟨t1, hst1⟩ : ∃ t, t = twoOf d (n - 4) := ⟨_, rfl⟩
      obtain ⟨t2, hst2⟩ : ∃ t, t = twoOf d (n - 2) := ⟨_, rfl⟩
      rw [← hst1] at HT1 ht1
      rw [← hst2] at HT2 ht2
      have HE : Hid (endOf n d = t1 + t2) := by show _ = _; rw [hst1, hst2]; rfl
      clear hst1 hst2
      have hw4 : IntKind.i64.wrap ((n : Int) - 4) = (n : Int) - 4 := by rw [IntWalk.i64_in _ (by omega)]
      have hw2 : IntKind.i64.wrap ((n : Int) - 2) = (n : Int) - 2 := by rw [IntWalk.i64_in _ (by omega)]
      have hwt : IntKind.i64.wrap ((t1 : Int) + (t2 : Int)) = (t1 : Int) + (t2 : Int) := by rw [IntWalk.i64_in _ (by omega)]
      go_wp2
      go_region_held3 (fun w' => w'.cell? ⟨gS, 0, none⟩ = some (.int .i64 n) ∧ w'.cell? ⟨gD, 0, none⟩ = some (.string d)) (first | exact ⟨(hBB.cell (p := ⟨gS, 0, none⟩) hlS).trans hcS, (hBB.cell (p := ⟨gD, 0, none⟩) hlD).trans hcD⟩ | exact ⟨hcS, hcD⟩) (first | (go_at_call 83; with_reducible_and_instances refine (HT1.out _).mono ?_; rintro e wz ⟨rfl, hbF⟩; first | have hBB := bstep hBB hbF | have hBB := bstep ((Below.refl _ w1).drew) hbF) | (go_at_call 83; with_reducible_and_instances refine (HT2.out _).mono ?_; rintro e wz ⟨rfl, hbF⟩; first | have hBB := bstep hBB hbF | have hBB := bstep ((Below.refl _ w1).drew) hbF))
      all_goals
        have hbz := bstep HB1.out hBB
        have hzS : wz.heap[gS]? = some (.cells #[.int .i64 n] 3 (0, 0)) := (hBB.block _ hlS).trans HS1.out
        have hzD : wz.heap[gD]? = some (.cells #[.string d] 9 (0, 0)) := (hBB.block _ hlD).trans HD1.out
        have hlS2 := blk_lt hzS
        have hlD2 := blk_lt hzD
        have hwz := hbz.size
        clear hBB hcS hcD hlS hlD hbF
        obtain ⟨W5, hW5⟩ : ∃ W5, W5 = ((wz.alloc (.cells #[] 9)).alloc (.cells #[.slice (some ⟨wz.heap.size, 0, none⟩) 0 0] 31)).alloc (.cells #[.int .i64 0] 3) := ⟨_, rfl⟩
        have hb5 : Below wz.heap.size wz W5 := by
          rw [hW5]
          exact (((Below.refl _ _).alloc (Nat.le_refl _) _).alloc (by simp) _).alloc (by simp; omega) _
        have HDS5 : Hid (DS w W5 (wz.heap.size + 1 + 1) gS (wz.heap.size + 1) gD n d (.slice (some ⟨wz.heap.size, 0, none⟩) 0 0) [] 0) := by
          show DS _ _ _ _ _ _ _ _ _ _ _
          refine ⟨?_, (hb5.block _ hlS2).trans hzS, ?_, (hb5.block _ hlD2).trans hzD, ?_, ?_, ?_, ?_, ?_, ?_, ?_, ?_, ?_, ?_, ?_, ?_, bstep hbz hb5⟩
          · rw [hW5]; exact heap_at_alloc (by simp)
          · rw [hW5, Below.heap_alloc _ _ _ (by simp)]; exact heap_at_alloc (by simp)
          · have hm := World.ownsRow_made (e := 9) (size := 1) wz #[] 0 (base := w.heap.size) hwz (by decide) rfl
            rw [hW5]
            exact (hm.alloc _).alloc _
          all_goals first | (simp [Value.ownBlock]; done) | (simp [Value.ownBlock]; omega) | omega
        have hcS5 := cell_of_row _ _ 0 _ _ _ HDS5.out.cs
        rw [hW5] at hcS5
        have hw44 : IntKind.i64.wrap ((n : Int) - 4 - 3) = (n : Int) - 4 - 3 := by rw [IntWalk.i64_in _ (by omega)]
        clear hb5 hzS hzD hlS2 hlD2 hbz
        go_wp2
        rw [← hW5]
        clear hcS5 hw44 hw4 hw2 hwt
        obtain ⟨R, hR⟩ : ∃ R, R = rounds n (t1 + t2) := ⟨_, rfl⟩
        obtain ⟨P, hP⟩ : ∃ P, P = readP n d R (n - 7) ([], 0, 0) := ⟨_, rfl⟩
        have HPP : Hid (parseP n d = P.map (·.1)) := by
          show _ = _
          unfold parseP
          rw [HE.out, ← hR, ← hP]
        have hRlo : ∀ k, k < R → (t1 : Int) + (t2 : Int) ≤ (n : Int) - 7 - 3 * (k : Int) := by
          intro k hk
          rw [hR] at hk
          unfold rounds at hk
          split at hk <;> omega
        have hRhi : ∀ k, k = R → ¬ ((t1 : Int) + (t2 : Int) ≤ (n : Int) - 7 - 3 * (k : Int)) := by
          intro k hk
          rw [hR] at hk
          unfold rounds at hk
          split at hk <;> omega
        have HRLO := Lib.hid hRlo
        have HRHI := Lib.hid hRhi
        have HP := Lib.hid hP
        clear hRlo hRhi hP hR
        go_loopw [10, 12] (fun x y wr => ∃ (k a m : Nat) (l : List ByteArray) (v : Value), k ≤ R ∧ x = .int .i64 m ∧ y = .int .i64 ((n : Int) - 7 - 3 * (k : Int)) ∧ P = readP n d (R - k) (n - 7 - 3 * k) (l, a, m) ∧ l.length ≤ a ∧ a ≤ n ∧ m < 65536 ∧ (∀ s ∈ l, s.size ≤ d.size) ∧ DS w wr (wz.heap.size + 1 + 1) gS (wz.heap.size + 1) gD n d v l a) (fun _ y _ => (intOf y + 10).toNat)
        case atStart => exact ⟨0, 0, 0, [], _, by omega, rfl, by go_num, HP.out, by simp, by omega, by omega, by simp, HDS5.out⟩
        case round =>
          obtain ⟨k, a, m, l, v, hk, rfl, rfl, hr, hla, ha, hm, hsz, hds⟩ := hrel
          have HDS := Lib.hid hds
          have HSZ := Lib.hid hsz
          clear hds hsz HDS5 HP
          have hcS := cell_of_row _ _ 0 _ _ _ HDS.out.cs
          have hcD := cell_of_row _ _ 0 _ _ _ HDS.out.cd
          have hcO := cell_of_row _ _ 0 _ _ _ HDS.out.co
          by_cases hkR : k < R
          · have hlo := HRLO.out k hkR
            obtain ⟨p, hp⟩ : ∃ p, p = n - 7 - 3 * k := ⟨_, rfl⟩
            have hpi : (n : Int) - 7 - 3 * (k : Int) = (p : Int) := by omega
            have hpn : p + 7 ≤ n := by omega
            have HPN : Hid (p + 2 < d.size) := by show _ < _; have := HDN.out; omega
            have HK3 : Hid ((p : Int) - 3 = (n : Int) - 7 - 3 * ((k + 1 : Nat) : Int) ∧ p - 3 = n - 7 - 3 * (k + 1)) := ⟨by omega, by omega⟩
            rw [hpi] at hlo ⊢
            rw [← hp, show R - k = (R - (k + 1)) + 1 by omega, readP] at hr
            have HKR : Hid (k + 1 ≤ R) := hkR
            have hpd : (p : Int) < (d.size : Int) := by have := HPN.out; omega
            have hpd' : p < d.size := by have := HPN.out; omega
            have hix := byteAt_get d p hpd'
            obtain ⟨y, hy⟩ : ∃ y, y = byteAt d p := ⟨_, rfl⟩
            obtain ⟨q, hq⟩ : ∃ q, q = twoOf d (p + 1) := ⟨_, rfl⟩
            have HQ : Hid (q < 65536) := by show _ < _; rw [hq]; exact twoOf_lt _ _
            have HST : Hid (stepP n d (l, a, m) p = if 0 < m then (if y = 8 then (takeN n d m q l a).map fun r => (r.1, r.2, 0) else none) else if y = 64 then some (l, a, q) else if y = 0 then (takeN n d q 1 l a).map fun r => (r.1, r.2, 0) else none) := by
              show _ = _
              rw [hy, hq]
              rfl
            have HT3 : Hid (∀ w', Calls Tryd.prog 83 #[.string d, .int .i64 ((p : Int) + 1)] w' fun e w'' => e = .returned (.int .i64 (q : Nat)) ∧ Below w'.heap.size w' w'') := by
              show ∀ _, _
              intro w'
              have := twoAt_any d (p + 1) w' (by have := HPN.out; omega) HDM.out
              rw [← hq] at this
              exact this
            rw [← hy] at hix
            clear hpi hp hy hq
            have HR := Lib.hid hr
            have HHP := Lib.hid HPP.out
            clear hr hcO hkR hk
            have hyb : y < 256 := by rw [← hix]; exact (d[p]).toNat_lt
            have q5 : IntKind.i64.wrap ((p : Int) + 1) = (p : Int) + 1 := by rw [IntWalk.i64_in _ (by omega)]
            go_wp2_with fail
            refine (HT3.out _).mono ?_
            rintro e w6 ⟨rfl, hb6⟩
            have HDS6 := Lib.hid (HDS.out.keep hb6)
            have hcD6 := cell_of_row _ _ 0 _ _ _ HDS6.out.cd
            clear hb6 hcS hcD
            have HERR : Hid (P = none → ∀ w', Below w.heap.size w w' → DecodedTo w ans (.returned (.tuple #[.slice none 0 0, .int .i64 11])) w') := by
              show _ → _
              intro hPn w' hw'
              rw [HA1.out (by rw [HHP.out, hPn]; rfl)]
              exact decoded_err _ _ _ hw'
            by_cases hm0 : 0 < m
            · have hm0' : (0 : Int) < (m : Int) := by omega
              by_cases hy8 : y = 8
              · subst hy8
                have hs := HST.out
                rw [if_pos hm0, if_pos rfl] at hs
                have HS3 := Lib.hid hs
                clear hs hm0
                go_wp2_with fail
                refine (take_any w _ (wz.heap.size + 1 + 1) gS (wz.heap.size + 1) gD n d v l a q m HDS6.out HDN.out (by omega) ha hla HQ.out hm).mono ?_
                rintro e w7 htk
                cases htn : takeN n d m q l a with
                | none =>
                  rw [htn] at htk
                  obtain ⟨rfl, hb7⟩ := htk
                  have hPn : P = none := by rw [HR.out, HS3.out, htn]; rfl
                  go_wp2
                  go_ret2
                  exact HERR.out hPn _ hb7
                | some r =>
                  obtain ⟨l', a'⟩ := r
                  rw [htn] at htk
                  obtain ⟨rfl, hla', ha', v', hds'⟩ := htk
                  have HN := Lib.hid hds'
                  have HSZ2 := Lib.hid (takeN_sizes _ _ _ _ _ _ _ _ htn HSZ.out)
                  have HR2 : Hid (P = readP n d (R - (k + 1)) (p - 3) (l', a', 0)) := by
                    show _ = _
                    rw [HR.out, HS3.out, htn]; rfl
                  clear hds' htn
                  go_wp2
                  exact ⟨⟨k + 1, a', 0, l', v', HKR.out, rfl, by rw [HK3.out.1], by rw [← HK3.out.2]; exact HR2.out, hla', ha', by omega, HSZ2.out, HN.out⟩, by simp [intOf]; omega⟩
              · have hy8' : ((y : Int) == 8) = false := by simp only [beq_eq_false_iff_ne, ne_eq]; omega
                have hPn : P = none := by rw [HR.out, HST.out, if_pos hm0, if_neg hy8]; rfl
                clear hy8 hm0
                go_wp2
                go_ret2
                exact HERR.out hPn _ HDS6.out.bel
            · obtain rfl : m = 0 := by omega
              clear hm0
              by_cases hy64 : y = 64
              · subst hy64
                have HR2 : Hid (P = readP n d (R - (k + 1)) (p - 3) (l, a, q)) := by
                  show _ = _
                  rw [HR.out, HST.out]; rfl
                go_wp2
                exact ⟨⟨k + 1, a, q, l, v, HKR.out, rfl, by rw [HK3.out.1], by rw [← HK3.out.2]; exact HR2.out, hla, ha, HQ.out, HSZ.out, HDS6.out⟩, by simp [intOf]; omega⟩
              · have hy64' : ((y : Int) == 64) = false := by simp only [beq_eq_false_iff_ne, ne_eq]; omega
                by_cases hy0 : y = 0
                · subst hy0
                  have hs := HST.out
                  rw [if_neg (by omega), if_neg (by omega), if_pos rfl] at hs
                  have HS3 := Lib.hid hs
                  clear hs hy64
                  go_wp2_with fail
                  refine (take_any w _ (wz.heap.size + 1 + 1) gS (wz.heap.size + 1) gD n d v l a 1 q HDS6.out HDN.out (by omega) ha hla (by omega) HQ.out).mono ?_
                  rintro e w7 htk
                  cases htn : takeN n d q 1 l a with
                  | none =>
                    rw [htn] at htk
                    obtain ⟨rfl, hb7⟩ := htk
                    have hPn : P = none := by rw [HR.out, HS3.out, htn]; rfl
                    go_wp2
                    go_ret2
                    exact HERR.out hPn _ hb7
                  | some r =>
                    obtain ⟨l', a'⟩ := r
                    rw [htn] at htk
                    obtain ⟨rfl, hla', ha', v', hds'⟩ := htk
                    have HN := Lib.hid hds'
                    have HSZ2 := Lib.hid (takeN_sizes _ _ _ _ _ _ _ _ htn HSZ.out)
                    have HR2 : Hid (P = readP n d (R - (k + 1)) (p - 3) (l', a', 0)) := by
                      show _ = _
                      rw [HR.out, HS3.out, htn]; rfl
                    clear hds' htn
                    go_wp2
                    exact ⟨⟨k + 1, a', 0, l', v', HKR.out, rfl, by rw [HK3.out.1], by rw [← HK3.out.2]; exact HR2.out, hla', ha', by omega, HSZ2.out, HN.out⟩, by simp [intOf]; omega⟩
                · have hy0' : ((y : Int) == 0) = false := by simp only [beq_eq_false_iff_ne, ne_eq]; omega
                  have hPn : P = none := by rw [HR.out, HST.out, if_neg (by omega), if_neg hy64, if_neg hy0]; rfl
                  clear hy0 hy64
                  go_wp2
                  go_ret2
                  exact HERR.out hPn _ HDS6.out.bel
          · have hkR' : k = R := by omega
            have hno := HRHI.out k hkR'
            rw [hkR', Nat.sub_self, readP] at hr
            obtain ⟨y, hy⟩ : ∃ y, y = (n : Int) - 7 - 3 * (k : Int) := ⟨_, rfl⟩
            rw [← hy] at hno ⊢
            have hdec : decide ((t1 : Int) + (t2 : Int) ≤ y) = false := by simpa using hno
            have HPL : Hid (parseP n d = some l) := by show _ = _; rw [HPP.out, hr]; rfl
            obtain ⟨A, c, rfl, hstr, hlc⟩ := own_strs HDS.out.own
            have HENC : Hid (∀ w', Below wr.heap.size wr w' → Calls Tryd.prog 36 #[.int .i64 n, .slice A l.length c] w' fun e w'' => e = .returned (.tuple #[.string (encodeOf n l).1, .int .i64 (encodeOf n l).2]) ∧ Below w'.heap.size w' w'') := by
              show ∀ _, _
              intro w' hw'
              exact encode_any n A c l w' (by omega) (fun s hs => by have := HSZ.out s hs; omega) hlc (hstr.keep hw')
            have HSTR := Lib.hid hstr
            have HLC := Lib.hid hlc
            have HRES := Lib.hid (HA2.out l HPL.out)
            clear hkR hkR' hno hr hk hy hstr hlc
            rcases hxe : encodeOf n l with ⟨x, e2⟩
            rw [hxe] at HENC HRES
            clear hxe
            go_wp2_with fail
            refine (HENC.out _ (Below.refl _ _)).mono ?_
            rintro e w6 ⟨rfl, hb6⟩
            have HDS6 := Lib.hid (HDS.out.keep hb6)
            have HSTR6 := Lib.hid (HSTR.out.keep hb6)
            have hcD6 := cell_of_row _ _ 0 _ _ _ HDS6.out.cd
            have hcO6 := cell_of_row _ _ 0 _ _ _ HDS6.out.co
            clear hb6 hcS hcD hcO
            by_cases he : e2 = 0
            · subst he
              by_cases hx : x = d
              · subst hx
                go_wp2
                go_ret2
                rw [show ans = (l, 0) by rw [HRES.out]; simp]
                exact ⟨A, c, rfl, HSTR6.out, HLC.out, HDS6.out.bel⟩
              · have hxn := bytes_ne hx
                have HX := Lib.hid hx
                clear hx
                go_wp2
                go_ret2
                rw [HRES.out, if_neg (by intro h; injection h with h _; exact HX.out h)]
                exact decoded_err _ _ _ HDS6.out.bel
            · have hen : (e2 != 0) = true := by simp [he]
              have HEN := Lib.hid he
              clear he
              go_wp2
              go_ret2
              rw [HRES.out, if_neg (by intro h; injection h with _ h; exact HEN.out h)]
              exact decoded_err _ _ _ HDS6.out.bel
    · have hck : decodeOf size d = ([], checkOf size d) := by
        unfold decodeOf decodeWith
        rw [if_neg (by simp [h1])]
        unfold checkOf at h2 ⊢
        split at h2
        · rename_i hs; rw [if_pos hs, if_pos hs]
        · rename_i hs
          rw [if_neg hs, if_neg hs]
          split at h2
          · rename_i hu; rw [if_pos hu, if_pos hu]
          · exact absurd rfl h2
      rw [hck]
      obtain ⟨ck, hck2⟩ : ∃ ck, ck = checkOf size d := ⟨_, rfl⟩
      have HCK : Hid (∀ w', Calls Tryd.prog 82 #[.int .i64 size, .string d] w' fun e w'' => e = .returned (.int .i64 ck) ∧ Below w'.heap.size w' w'') := by
        show ∀ _, _
        intro w'
        rw [hck2]
        exact check_any size d w' HDM.out
      rw [← hck2] at h2 ⊢
      have hne : (ck != 0) = true := by simp [h2]
      clear hck hck2
      go_enter Tryd.func31, Tryd.ntmps31
      go_wp2_with fail
      refine (isSize_any _ _).mono ?_
      rintro e w' ⟨rfl, rfl⟩
      rw [h1]
      go_wp2_with fail
      refine (HCK.out _).mono ?_
      rintro e w1 ⟨rfl, hb1⟩
      go_wp2
      go_ret2
      exact decoded_err _ _ _ (bstep (((Below.refl _ _).alloc (Nat.le_refl _) _).alloc (by simp) _) hb1)
end Go.Proofs.YtnkhifgppcnmkaaDoor
