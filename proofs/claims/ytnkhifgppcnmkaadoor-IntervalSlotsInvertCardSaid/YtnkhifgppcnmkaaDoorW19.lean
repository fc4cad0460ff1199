/- Walks: the reference's DecodeSlots and SameSlots. -/
import Derived.Test.YtnkhifgppcnmkaaDoorW18
namespace Go.Proofs.YtnkhifgppcnmkaaDoor
open Go.RowKit Iv

/-- One element is appended to a row that the call owns; where the element's block lies is told by a number. -/
theorem wpl_pushH {ops : Array Oper} {rest : List Oper} {o : Oper} {a : Act} {Q : Exit → Act → World → Prop} {t e size bytes : Nat} (E : Elem t e size bytes) (hgd : o.guard = none) (s x : Operand)
    (ho : o.op = .call { callee := .builtin .append, args := #[s, x], argTypes := #[t, t] })
    {w0 w : World} (v : Value) (n : Nat) (xs news : List Value) (hs : a.eval s = v) (hown : w.ownsRow w0.heap.size e size v n xs) (hb : Below w0.heap.size w0 w)
    (H : Nat) (hH : w.heap.size = H) (hx : a.eval x = .slice (some ⟨H, 0, none⟩) 1 1) (hl : news.length = size) (h1 : ∀ u ∈ news, u.oneCell' = true) (h63 : n + 1 ≤ maxLen) (hbytes : (n + 1) * bytes ≤ 140737488355328)
    (h : ∀ g cap w', w'.ownsRow w0.heap.size e size (.slice (some ⟨g, 0, none⟩) (n + 1) cap) (n + 1) (xs ++ news) → Below w0.heap.size w0 w' → wpList Tryd.prog ops Q rest (a.put o.dst (.slice (some ⟨g, 0, none⟩) (n + 1) cap)) w') :
    wpList Tryd.prog ops Q (o :: rest) a (w.alloc (.cells news.toArray e)) := by
  subst hH
  exact wpl_push E hgd s x ho v n xs news hs hown hb hx hl h1 h63 hbytes h

theorem readSlots_succ (s m : Nat) (d : ByteArray) (k : Nat) : readSlots s m d (k + 1) = readSlots s m d k ++ [rdSlt s m d k] := by
  rw [readSlots_eq, readSlots_eq, List.range_succ, List.map_append]; rfl

set_option maxHeartbeats 1600000 in
set_option maxRecDepth 100000 in
theorem refDecSlots_any (size len : Int) (d : ByteArray) (w : World) (hd : d.size ≤ 1000) :
    Calls Tryd.prog 46 #[.int .i64 size, .int .i64 len, .string d] w fun e w' => SlotsTo w (decSlots size len d) e w' := by
  cases h1 : lenOk size len with
  | false =>
    have he : decSlots size len d = ([], 1) := by unfold decSlots; rw [if_pos h1]
    rw [he]
    go_enter Tryd.func46, Tryd.ntmps46
    go_wp2_with fail
    refine (isLength_any _ _ _).mono ?_
    rintro e w' ⟨rfl, rfl⟩
    rw [h1]
    go_wp2
    go_ret2
    exact slots_err _ _ _ (Below.refl _ _)
  | true =>
    obtain ⟨s, m, n, rfl, rfl, hn, hs1, hs2, hm1, hm2, hn1, hn2, hroom, _, _⟩ := slot_nums h1
    have H1 := Lib.hid h1
    have HDZ := Lib.hid hd
    by_cases h2 : (d.size : Int) = s
    · have hneq : ((d.size : Int) != (s : Int)) = false := by simp [h2]
      cases hu : unusedOf d with
      | true =>
        have he : decSlots s m d = ([], 9) := by unfold decSlots; rw [if_neg (by simp [h1]), if_neg (by omega), if_pos hu]
        rw [he]
        clear h2 h1 hn hroom
        go_enter Tryd.func46, Tryd.ntmps46
        go_wp2_with fail
        refine (isLength_any _ _ _).mono ?_
        rintro e w' ⟨rfl, rfl⟩
        rw [H1.out]
        go_wp2_with fail
        refine (refUnused_any d _ HDZ.out).mono ?_
        rintro e w1 ⟨rfl, hb1⟩
        go_wp2
        go_ret2
        exact slots_err _ _ _ hb1
      | false =>
        have hds : d.size = s := by omega
        obtain ⟨ans, hans⟩ : ∃ ans, ans = decSlots s m d := ⟨_, rfl⟩
        rw [← hans]
        have he : ans = if encSlots s m (readSlots s m d n) = (d, 0) then (readSlots s m d n, 0) else ([], 11) := by
          rw [hans]; unfold decSlots; rw [if_neg (by simp [h1]), if_neg (by omega), if_neg (by simp [hu]), hn]; rfl
        have HA := Lib.hid he
        have HDS := Lib.hid hds
        have HROOM := Lib.hid hroom
        have HCNT : Hid (∀ w', Calls Tryd.prog 49 #[.int .i64 s, .int .i64 m] w' fun e w'' => e = .returned (.int .i64 n) ∧ w' = w'') := by
          show ∀ _, _
          intro w'
          have := refSlotCount_any s m w'
          rwa [hn] at this
        clear hn hroom h2 hans he h1 hds
        go_enter Tryd.func46, Tryd.ntmps46
        go_wp2_with fail
        refine (isLength_any _ _ _).mono ?_
        rintro e w' ⟨rfl, rfl⟩
        rw [H1.out]
        go_wp2_with fail
        refine (refUnused_any d _ HDZ.out).mono ?_
        rintro e w1 ⟨rfl, hb1⟩
        have HB1 := Lib.hid hb1
        clear hb1
        have hm : (w1.alloc (.cells #[] 68)).ownsRow w.heap.size 68 2 (.slice (some ⟨w1.heap.size, 0, none⟩) 0 0) 0 (sltCells (readSlots s m d 0)) := World.ownsRow_made (e := 68) (size := 2) w1 #[] 0 HB1.out.size (by decide) rfl
        have HOW := Lib.hid hm
        have HBW := Lib.hid (HB1.out.alloc HB1.out.size (.cells #[] 68))
        clear hm
        go_wp2
        go_loopw [8, 9] (fun x z wr => ∃ k : Nat, z = .int .i64 k ∧ k ≤ n ∧ wr.ownsRow w.heap.size 68 2 x k (sltCells (readSlots s m d k)) ∧ Below w.heap.size w wr) (fun _ z _ => n - (intOf z).toNat)
        case atStart => exact ⟨0, rfl, Nat.zero_le _, HOW.out, HBW.out⟩
        case round =>
          obtain ⟨k, rfl, hk, hown, hb⟩ := hrel
          have HB := Lib.hid hb
          have HO := Lib.hid hown
          clear hb hown HOW HBW
          by_cases hkn : k < n
          · have hroom := slt_room m n s k hkn HROOM.out
            obtain ⟨P, hP⟩ : ∃ P, P = s - 7 - 3 * k := ⟨_, rfl⟩
            have e1 : (s : Int) - 7 - 3 * (k : Int) = (P : Int) := by omega
            have hPd : (P : Int) < (d.size : Int) := by have := HDS.out; omega
            have hPd2 : P < d.size := by omega
            have hix := byteAt_get d P hPd2
            obtain ⟨y, hy⟩ : ∃ y, y = byteAt d P := ⟨_, rfl⟩
            rw [← hy] at hix
            have hrd : rdSlt s m d k = if y = 0 then (true, d.extract (k * m) ((k + 1) * m)) else noSlt := by unfold rdSlt; rw [← hP, ← hy]
            obtain ⟨K, hK⟩ : ∃ K, K = k * m := ⟨_, rfl⟩
            have hK2 : (k + 1) * m = K + m := by rw [Nat.succ_mul, hK]
            rw [← hK, hK2] at hrd
            have m1 : (k : Int) * (m : Int) = (K : Int) := by rw [hK]; push_cast; rfl
            have m2 : ((k : Int) + 1) * (m : Int) = (K : Int) + (m : Int) := by rw [hK]; push_cast; rw [Int.add_mul, Int.one_mul]
            have hK5 : K ≤ 512 := by rw [hK]; omega
            have q1 : (K : Int) ≤ (K : Int) + (m : Int) := by omega
            have q2 : (K : Int) + (m : Int) ≤ (d.size : Int) := by have := HDS.out; rw [hK]; omega
            have q4 : ((K : Int) + (m : Int)).toNat = K + m := by omega
            have hsc := readSlots_succ s m d k
            have HSC : Hid (sltCells (readSlots s m d k) ++ [.bool (rdSlt s m d k).1, .string (rdSlt s m d k).2] = sltCells (readSlots s m d (k + 1))) := by
              show _ = _
              rw [hsc, sltCells_append]; rfl
            have HRD := Lib.hid hrd
            have HK := Lib.hid hkn
            clear hP hy hK hK2 hroom hrd hsc
            by_cases hy0 : y = 0
            · subst hy0
              have h1 := HSC.out
              rw [HRD.out, if_pos rfl] at h1
              have HSC2 := Lib.hid h1
              have HBX := Lib.hid (HB.out.alloc HB.out.size (.cells #[.bool true, .string (d.extract K (K + m))] 68))
              have HOX : Hid ((wr.alloc (.cells #[.bool true, .string (d.extract K (K + m))] 68)).ownsRow w.heap.size 68 2 u8 k (sltCells (readSlots s m d k))) := World.ownsRow.alloc HO.out _
              clear h1
              go_wp2_with fail
              refine (HCNT.out _).mono ?_
              rintro e w' ⟨rfl, rfl⟩
              go_wp2_with (first | (at_builtin; refine wpl_pushH elemSlot rfl _ _ rfl u8 k (sltCells (readSlots s m d k)) [.bool true, .string (d.extract K (K + m))] rfl HOX.out HBX.out _ (by simp) rfl rfl (by simp [Value.oneCell']) (by have := HK.out; unfold maxLen; omega) (by have := HK.out; omega) ?_; intro g cap w7 hown7 hb7; have HB7 := Lib.hid hb7; clear hb7))
              refine ⟨⟨k + 1, by go_num, by have := HK.out; omega, ?_, HB7.out⟩, by have := HK.out; simp [intOf]; omega⟩
              rw [← HSC2.out]
              exact hown7
            · have hyz : ((y : Int) == 0) = false := by simpa using hy0
              have h1 := HSC.out
              rw [HRD.out, if_neg hy0] at h1
              have HSC2 := Lib.hid h1
              have HBX := Lib.hid (HB.out.alloc HB.out.size (.cells #[.bool false, .string ByteArray.empty] 68))
              have HOX : Hid ((wr.alloc (.cells #[.bool false, .string ByteArray.empty] 68)).ownsRow w.heap.size 68 2 u8 k (sltCells (readSlots s m d k))) := World.ownsRow.alloc HO.out _
              clear h1
              go_wp2_with fail
              refine (HCNT.out _).mono ?_
              rintro e w' ⟨rfl, rfl⟩
              go_wp2_with (first | (at_builtin; refine wpl_pushH elemSlot rfl _ _ rfl u8 k (sltCells (readSlots s m d k)) [.bool false, .string ByteArray.empty] rfl HOX.out HBX.out _ (by simp) rfl rfl (by simp [Value.oneCell']) (by have := HK.out; unfold maxLen; omega) (by have := HK.out; omega) ?_; intro g cap w7 hown7 hb7; have HB7 := Lib.hid hb7; clear hb7))
              refine ⟨⟨k + 1, by go_num, by have := HK.out; omega, ?_, HB7.out⟩, by have := HK.out; simp [intOf]; omega⟩
              rw [← HSC2.out]
              exact hown7
          · obtain rfl : k = n := by omega
            have hlen : (readSlots s m d k).length = k := by simp [readSlots]
            obtain ⟨A, c, rfl, hrow, hkc⟩ := own_row HO.out
            have HENC : Hid (∀ w', Below wr.heap.size wr w' → Calls Tryd.prog 44 #[.int .i64 s, .int .i64 m, .slice A k c] w' fun e w'' => e = .returned (.tuple #[.string (encSlots s m (readSlots s m d k)).1, .int .i64 (encSlots s m (readSlots s m d k)).2]) ∧ Below w'.heap.size w' w'') := by
              show ∀ _, _
              intro w' hw'
              have := refEncSlots_any s m A c (readSlots s m d k) w' (hrow.keep hw')
              rwa [hlen] at this
            have HL := Lib.hid hlen
            have HRES := HA
            clear hlen hrow
            obtain ⟨rs, hrs⟩ : ∃ rs, rs = readSlots s m d k := ⟨_, rfl⟩
            rw [← hrs] at HENC HRES HO HL
            clear hrs
            rcases hxe : encSlots s m rs with ⟨x, e2⟩
            rw [hxe] at HENC HRES
            clear hxe HA
            go_wp2_with fail
            refine (HCNT.out _).mono ?_
            rintro e w' ⟨rfl, rfl⟩
            go_wp2_with fail
            refine (HENC.out _ (Below.refl _ _)).mono ?_
            rintro e w6 ⟨rfl, hb6⟩
            have HB6 := Lib.hid (bstep HB.out hb6)
            have HOWN6 := Lib.hid (own_keep HO.out hb6)
            clear hb6
            by_cases he : e2 = 0
            · subst he
              by_cases hx : x = d
              · subst hx
                go_wp2
                go_ret2
                rw [show ans = (rs, 0) by rw [HRES.out]; simp]
                exact ⟨_, rfl, by rw [HL.out]; exact HOWN6.out, HB6.out⟩
              · have hxn := bytes_ne hx
                have HX := Lib.hid hx
                clear hx
                go_wp2
                go_ret2
                rw [HRES.out, if_neg (by intro h; injection h with h _; exact HX.out h)]
                exact slots_err _ _ _ HB6.out
            · have hen : (e2 != 0) = true := by simp [he]
              have HEN := Lib.hid he
              clear he
              go_wp2
              go_ret2
              rw [HRES.out, if_neg (by intro h; injection h with _ h; exact HEN.out h)]
              exact slots_err _ _ _ HB6.out
    · have he : decSlots s m d = ([], 11) := by unfold decSlots; rw [if_neg (by simp [h1]), if_pos h2]
      rw [he]
      have hne : ((d.size : Int) != (s : Int)) = true := by simp only [bne_iff_ne, ne_eq]; exact h2
      clear h2 h1 hn hroom
      go_enter Tryd.func46, Tryd.ntmps46
      go_wp2_with fail
      refine (isLength_any _ _ _).mono ?_
      rintro e w' ⟨rfl, rfl⟩
      rw [H1.out]
      go_wp2
      go_ret2
      exact slots_err _ _ _ (Below.refl _ _)
end Go.Proofs.YtnkhifgppcnmkaaDoor
