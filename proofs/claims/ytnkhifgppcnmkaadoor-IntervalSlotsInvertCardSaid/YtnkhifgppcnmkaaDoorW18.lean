/- Walks: DecodeSlots. -/
import Derived.Test.YtnkhifgppcnmkaaDoorW17
namespace Go.Proofs.YtnkhifgppcnmkaaDoor
open Go.RowKit Iv

/-- What DecodeSlots answers: a slice of slots that is its caller's own, and the error. -/
def SlotsTo (w : World) (r : List Slt × Int) (e : Ending) (w' : World) : Prop :=
  ∃ v, e = .returned (.tuple #[v, .int .i64 r.2]) ∧ w'.ownsRow w.heap.size 68 2 v r.1.length (sltCells r.1) ∧ Below w.heap.size w w'

theorem slots_err (w w' : World) (k : Int) (h : Below w.heap.size w w') : SlotsTo w ([], k) (.returned (.tuple #[.slice none 0 0, .int .i64 k])) w' :=
  ⟨_, rfl, World.ownsRow_nil _ _ _ _, h⟩

/-- The slot that is read at a place. -/
def rdSlt (s m : Nat) (d : ByteArray) (i : Nat) : Slt := if byteAt d (s - 7 - 3 * i) = 0 then (true, d.extract (i * m) ((i + 1) * m)) else noSlt
theorem readSlots_eq (s m : Nat) (d : ByteArray) (n : Nat) : readSlots s m d n = (List.range n).map (rdSlt s m d) := rfl
/-- The first k slots read, the others still unused. -/
def rdTab (s m : Nat) (d : ByteArray) (n k : Nat) : List Slt := (List.range k).map (rdSlt s m d) ++ List.replicate (n - k) noSlt

theorem rdTab_length (s m : Nat) (d : ByteArray) (n k : Nat) (h : k ≤ n) : (rdTab s m d n k).length = n := by simp [rdTab]; omega
theorem rdTab_all (s m : Nat) (d : ByteArray) (n : Nat) : rdTab s m d n n = readSlots s m d n := by simp [rdTab, readSlots_eq]
theorem rdTab_at (s m : Nat) (d : ByteArray) (n k : Nat) (h : k < n) : sltAt (rdTab s m d n k) k = noSlt := by
  unfold sltAt rdTab
  rw [List.getD, List.getElem?_append_right (by simp)]
  obtain ⟨j, hj⟩ : ∃ j, n - k = j + 1 := ⟨n - k - 1, by omega⟩
  rw [hj, List.replicate_succ]
  simp
theorem rdTab_succ (s m : Nat) (d : ByteArray) (n k : Nat) (h : k < n) : rdTab s m d n (k + 1) = (rdTab s m d n k).set k (rdSlt s m d k) := by
  unfold rdTab
  rw [List.range_succ, List.map_append, List.set_append_right _ _ (by simp)]
  obtain ⟨j, hj⟩ : ∃ j, n - k = j + 1 := ⟨n - k - 1, by omega⟩
  rw [hj, List.replicate_succ, show n - (k + 1) = j by omega]
  simp

theorem sltCells_append (a b : List Slt) : sltCells (a ++ b) = sltCells a ++ sltCells b := by simp [sltCells]
theorem sltCells_set (l : List Slt) (k : Nat) (x : Slt) (h : k < l.length) : ((sltCells l).set (k * 2) (.bool x.1)).set (k * 2 + 1) (.string x.2) = sltCells (l.set k x) := by
  have e : l = l.take k ++ ([l[k]] ++ l.drop (k + 1)) := by
    conv => lhs; rw [← List.take_append_drop k l, List.drop_eq_getElem_cons h]
    rfl
  have hl := sltCells_length (l.take k)
  rw [List.length_take, Nat.min_eq_left (by omega)] at hl
  have e2 : l.set k x = l.take k ++ ([x] ++ l.drop (k + 1)) := by
    rw [List.set_eq_take_append_cons_drop, if_pos h]; rfl
  have e3 : sltCells l = sltCells (l.take k) ++ ([.bool l[k].1, .string l[k].2] ++ sltCells (l.drop (k + 1))) := by
    conv => lhs; rw [e, sltCells_append, sltCells_append]
    rfl
  rw [e2, e3, sltCells_append, sltCells_append, List.set_append_right _ _ (by omega), List.set_append_right _ _ (by omega), show k * 2 - (sltCells (l.take k)).length = 0 by omega, show k * 2 + 1 - (sltCells (l.take k)).length = 1 by omega]
  rfl

theorem sltMade (n : Nat) : madeCells #[.bool false, .string ByteArray.empty] (n * 2) = (sltCells (List.replicate n noSlt)).toArray := by
  apply Array.ext'
  apply List.ext_getElem
  · rw [Array.length_toList, size_madeCells, List.toList_toArray, sltCells_length, List.length_replicate, Nat.mul_comm]
  · intro i h1 h2
    have hz : ∀ j, j < n → sltAt (List.replicate n noSlt) j = noSlt := by
      intro j hj; unfold sltAt; rw [List.getD, List.getElem?_replicate, if_pos hj]; rfl
    have hi : i < n * 2 := by rw [Array.length_toList, size_madeCells] at h1; exact h1
    have hg := sltCells_get (List.replicate n noSlt) (i / 2) (by rw [List.length_replicate]; omega)
    rw [hz _ (by omega)] at hg
    apply Option.some.inj
    have hl : some ((madeCells #[Value.bool false, Value.string ByteArray.empty] (n * 2)).toList[i]) = some ((#[Value.bool false, Value.string ByteArray.empty] : Array Value)[i % 2]!) := by
      simp [madeCells]
    rw [hl, ← List.getElem?_eq_getElem h2]
    show _ = (sltCells (List.replicate n noSlt))[i]?
    rcases Nat.mod_two_eq_zero_or_one i with h | h
    · rw [h]
      conv => rhs; rw [show i = 2 * (i / 2) by omega]
      rw [hg.1]; rfl
    · rw [h]
      conv => rhs; rw [show i = 2 * (i / 2) + 1 by omega]
      rw [hg.2]; rfl

set_option maxRecDepth 100000 in
theorem make_slots (n : Nat) (hn : n ≤ 1000) (w : World) :
    (Instr.makeSlice 66 (.int .i64 (n : Int)) (.int .i64 (n : Int))).run Tryd.prog w = .ok (.slice (some ⟨w.heap.size, 0, none⟩) n n) (w.alloc (.cells (sltCells (List.replicate n noSlt)).toArray 68)) := by
  obtain ⟨ht, i, z, hi, hz, hs, hb, hzs, _⟩ := elemSlot
  have hz2 : some z = some (Value.agg #[.bool false, .string ByteArray.empty]) := by
    have h : (Tryd.prog.info? 68).map (fun i => i.zero) = some (some (Value.agg #[.bool false, .string ByteArray.empty])) := by kernel_rfl
    rw [hi] at h
    simp only [Option.map_some, Option.some.injEq] at h
    rw [← hz, h]
  injection hz2 with hz2
  subst hz2
  have hr := run_make w 66 68 i _ ht hi hz .i64 .i64 (n : Int) (n : Int) (by omega) (by omega) (by rw [hb]; omega) (by omega)
  rw [hr, Int.toNat_natCast, hs, ← sltMade]
  rfl
theorem lenOk_false {size len : Int} (h : lenOk size len = false) : slotCount size len = 0 := by rw [slot_len, if_neg (by simp [h])]

set_option maxHeartbeats 800000 in
set_option maxRecDepth 100000 in
theorem decSlots_any (size len : Int) (d : ByteArray) (w : World) (hd : d.size ≤ 1000) :
    Calls Tryd.prog 45 #[.int .i64 size, .int .i64 len, .string d] w fun e w' => SlotsTo w (decSlots size len d) e w' := by
  have HDM : Hid (d.size ≤ maxLen) := by show _ ≤ _; unfold maxLen; omega
  cases h1 : lenOk size len with
  | false =>
    have he : decSlots size len d = ([], 1) := by unfold decSlots; rw [if_pos h1]
    have hc := lenOk_false h1
    rw [he]
    go_enter Tryd.func45, Tryd.ntmps45
    go_wp2_with fail
    refine (slotCount_any _ _ _).mono ?_
    rintro e w' ⟨rfl, rfl⟩
    rw [hc]
    go_wp2
    go_ret2
    exact slots_err _ _ _ (Below.refl _ _)
  | true =>
    obtain ⟨s, m, n, rfl, rfl, hn, hs1, hs2, hm1, hm2, hn1, hn2, hroom, _, _⟩ := slot_nums h1
    have hz : ((n : Int) == 0) = false := by simp; omega
    have HN := Lib.hid hn
    by_cases h2 : checkOf s d = 0
    · have h2a : (d.size : Int) = s := by
        unfold checkOf at h2
        split at h2
        · cases h2
        · omega
      have h2b : unusedOf d = false := by
        unfold checkOf at h2
        rw [if_neg (by omega)] at h2
        cases hu : unusedOf d with
        | false => rfl
        | true => rw [hu, if_pos rfl] at h2; cases h2
      have hds : d.size = s := by omega
      obtain ⟨ans, hans⟩ : ∃ ans, ans = decSlots s m d := ⟨_, rfl⟩
      rw [← hans]
      have he : ans = if encSlots s m (readSlots s m d n) = (d, 0) then (readSlots s m d n, 0) else ([], 11) := by
        rw [hans]; unfold decSlots; rw [if_neg (by simp [h1]), if_neg (by omega), if_neg (by simp [h2b]), hn]; rfl
      have HA := Lib.hid he
      have HDS := Lib.hid hds
      have HROOM := Lib.hid hroom
      have HCK : Hid (∀ w', Calls Tryd.prog 82 #[.int .i64 s, .string d] w' fun e w'' => e = .returned (.int .i64 0) ∧ Below w'.heap.size w' w'') := by
        show ∀ _, _
        intro w'
        have := check_any s d w' HDM.out
        rwa [h2] at this
      have hmk := fun W => make_slots n (by omega) W
      clear hn hroom h2 h2a h2b hans he h1 hds
      go_enter Tryd.func45, Tryd.ntmps45
      go_wp2_with fail
      refine (slotCount_any _ _ _).mono ?_
      rintro e w' ⟨rfl, rfl⟩
      rw [HN.out]
      go_wp2_with fail
      refine (HCK.out _).mono ?_
      rintro e w1 ⟨rfl, hb1⟩
      have HB1 := Lib.hid hb1
      clear hb1
      go_wp2
      obtain ⟨g, hg⟩ : ∃ g, g = w1.heap.size := ⟨_, rfl⟩
      have HG0 : Hid ((w1.alloc (.cells (sltCells (List.replicate n noSlt)).toArray 68)).heap[g]? = some (.cells (sltCells (rdTab s m d n 0)).toArray 68 (0, 0))) := by
        show _ = _
        rw [hg]
        have : rdTab s m d n 0 = List.replicate n noSlt := by simp [rdTab]
        rw [this]
        exact heap_alloc_new w1 _
      have HB2 := Lib.hid (HB1.out.alloc HB1.out.size (.cells (sltCells (List.replicate n noSlt)).toArray 68))
      have HGL : Hid (w.heap.size ≤ g) := by show _ ≤ _; rw [hg]; exact HB1.out.size
      rw [← hg]
      clear hg hmk
      go_loopw [29] (fun x wr => ∃ k : Nat, x = .int .i64 k ∧ k ≤ n ∧ wr.heap[g]? = some (.cells (sltCells (rdTab s m d n k)).toArray 68 (0, 0)) ∧ Below w.heap.size w wr) (fun x _ => n - (intOf x).toNat)
      case atStart => exact ⟨0, rfl, Nat.zero_le _, HG0.out, HB2.out⟩
      case round =>
        obtain ⟨k, rfl, hk, hg, hb⟩ := hrel
        have HB := Lib.hid hb
        have HG := Lib.hid hg
        clear hb hg HG0 HB2
        by_cases hkn : k < n
        · have hroom := slt_room m n s k hkn HROOM.out
          obtain ⟨P, hP⟩ : ∃ P, P = s - 7 - 3 * k := ⟨_, rfl⟩
          have e1 : (s : Int) - 4 - 3 * ((k : Int) + 1) = (P : Int) := by omega
          have hPd : (P : Int) < (d.size : Int) := by have := HDS.out; omega
          have hPd2 : P < d.size := by omega
          have hix := byteAt_get d P hPd2
          obtain ⟨y, hy⟩ : ∃ y, y = byteAt d P := ⟨_, rfl⟩
          rw [← hy] at hix
          have hrd : rdSlt s m d k = if y = 0 then (true, d.extract (k * m) ((k + 1) * m)) else noSlt := by unfold rdSlt; rw [← hP, ← hy]
          obtain ⟨K, hK⟩ : ∃ K, K = k * m := ⟨_, rfl⟩
          have hK2 : (k + 1) * m = K + m := by rw [Nat.succ_mul, hK]
          rw [← hK, hK2] at hrd
          have m1 : (k : Int) * (m : Int) = (K : Int) := by rw [hK]; push_cast; rfl
          have m2 : ((k : Int) + 1) * (m : Int) = (K : Int) + (m : Int) := by rw [hK]; push_cast; rw [Int.add_mul, Int.one_mul]
          have hK5 : K ≤ 512 := by rw [hK]; omega
          have q1 : (K : Int) ≤ (K : Int) + (m : Int) := by omega
          have q2 : (K : Int) + (m : Int) ≤ (d.size : Int) := by have := HDS.out; rw [hK]; omega
          have q4 : ((K : Int) + (m : Int)).toNat = K + m := by omega
          have hL := rdTab_length s m d n k hk
          have hcs := sltCells_get (rdTab s m d n k) k (by omega)
          rw [rdTab_at s m d n k hkn] at hcs
          have hc0 : wr.cell? ⟨g, k * 2, none⟩ = some (.bool false) := by
            rw [cell_of_row _ _ (k * 2) _ _ _ HG.out, List.getElem?_toArray, Nat.mul_comm]; exact hcs.1
          have hc1 : wr.cell? ⟨g, k * 2 + 1, none⟩ = some (.string ByteArray.empty) := by
            rw [cell_of_row _ _ (k * 2 + 1) _ _ _ HG.out, List.getElem?_toArray, Nat.mul_comm]; exact hcs.2
          have hf0 := frozen_of_row _ _ (k * 2) _ _ HG.out
          have hf1 := frozen_of_row _ _ (k * 2 + 1) _ _ HG.out
          have hset := rdTab_succ s m d n k hkn
          have hst := sltCells_set (rdTab s m d n k) k (rdSlt s m d k) (by omega)
          rw [← hset] at hst
          have HST := Lib.hid hst
          have HRD := Lib.hid hrd
          clear hP hy hK hK2 hcs hset hst hL hroom hrd
          by_cases hy0 : y = 0
          · subst hy0
            go_wp2
            refine ⟨⟨k + 1, by go_num, by omega, ?_, (HB.out.setCell (p := ⟨g, k * 2, none⟩) HGL.out _).setCell (p := ⟨g, k * 2 + 1, none⟩) HGL.out _⟩, by simp [intOf]; omega⟩
            rw [heap_setCell_same _ _ _ _ _ _ (heap_setCell_same _ _ _ _ _ _ HG.out)]
            have h1 := HST.out
            rw [HRD.out, if_pos rfl] at h1
            rw [← h1]
            simp
          · have hyz : ((y : Int) == 0) = false := by simpa using hy0
            go_wp2
            refine ⟨⟨k + 1, by go_num, by omega, ?_, HB.out⟩, by simp [intOf]; omega⟩
            have h1 := HST.out
            rw [HRD.out, if_neg hy0] at h1
            rw [HG.out, ← h1]
            have h2 : sltCells (rdTab s m d n k) = ((sltCells (rdTab s m d n k)).set (k * 2) (Value.bool noSlt.1)).set (k * 2 + 1) (Value.string noSlt.2) := by
              have hL := rdTab_length s m d n k hk
              rw [sltCells_set _ _ _ (by omega)]
              congr 1
              apply List.ext_getElem (by simp)
              intro i h1 h2
              rw [List.getElem_set]
              split
              · rename_i e
                subst e
                have h3 := rdTab_at s m d n k hkn
                unfold sltAt at h3
                rw [List.getD, List.getElem?_eq_getElem h1] at h3
                exact h3
              · rfl
            rw [← h2]
        · obtain rfl : k = n := by omega
          have hlen : (readSlots s m d k).length = k := by simp [readSlots]
          have HOWN : Hid (wr.ownsRow w.heap.size 68 2 (.slice (some ⟨g, 0, none⟩) k k) k (sltCells (readSlots s m d k))) := by
            have hc2 := sltCells_length (readSlots s m d k)
            rw [hlen] at hc2
            refine ⟨by omega, .inr ⟨g, k, _, rfl, HGL.out, HG.out, Nat.le_refl _, by unfold maxLen; omega, ?_, ?_⟩⟩
            · rw [rdTab_all, List.size_toArray]; omega
            · rw [rdTab_all, List.toList_toArray, List.take_of_length_le (by omega)]
          have HENC : Hid (∀ w', Below wr.heap.size wr w' → Calls Tryd.prog 43 #[.int .i64 s, .int .i64 m, .slice (some ⟨g, 0, none⟩) k k] w' fun e w'' => e = .returned (.tuple #[.string (encSlots s m (readSlots s m d k)).1, .int .i64 (encSlots s m (readSlots s m d k)).2]) ∧ Below w'.heap.size w' w'') := by
            show ∀ _, _
            intro w' hw'
            obtain ⟨A, c, e, hrow, _⟩ := own_row (own_keep HOWN.out hw')
            injection e with e1 e2 e3
            subst e1
            have := encSlots_any s m (some ⟨g, 0, none⟩) k (readSlots s m d k) w' hrow
            rwa [hlen] at this
          have HL := Lib.hid hlen
          have HRES := HA
          clear hlen
          obtain ⟨rs, hrs⟩ : ∃ rs, rs = readSlots s m d k := ⟨_, rfl⟩
          rw [← hrs] at HENC HRES HOWN HL
          clear hrs
          rcases hxe : encSlots s m rs with ⟨x, e2⟩
          rw [hxe] at HENC HRES
          clear hxe HA
          go_wp2_with fail
          refine (HENC.out _ (Below.refl _ _)).mono ?_
          rintro e w6 ⟨rfl, hb6⟩
          have HB6 := Lib.hid (bstep HB.out hb6)
          have HOWN6 := Lib.hid (own_keep HOWN.out hb6)
          clear hb6
          by_cases he : e2 = 0
          · subst he
            by_cases hx : x = d
            · subst hx
              go_wp2
              go_ret2
              rw [show ans = (rs, 0) by rw [HRES.out]; simp]
              exact ⟨_, rfl, by rw [HL.out]; exact HOWN6.out, HB6.out⟩
            · have hxn := bytes_ne hx
              have HX := Lib.hid hx
              clear hx
              go_wp2
              go_ret2
              rw [HRES.out, if_neg (by intro h; injection h with h _; exact HX.out h)]
              exact slots_err _ _ _ HB6.out
          · have hen : (e2 != 0) = true := by simp [he]
            have HEN := Lib.hid he
            clear he
            go_wp2
            go_ret2
            rw [HRES.out, if_neg (by intro h; injection h with _ h; exact HEN.out h)]
            exact slots_err _ _ _ HB6.out
    · have hck : decSlots s m d = ([], checkOf s d) := by
        unfold decSlots
        rw [if_neg (by simp [h1])]
        unfold checkOf at h2 ⊢
        split at h2
        · rename_i hs; rw [if_pos hs, if_pos hs]
        · rename_i hs
          rw [if_neg hs, if_neg hs]
          split at h2
          · rename_i hu; rw [if_pos hu, if_pos hu]
          · exact absurd rfl h2
      rw [hck]
      obtain ⟨ck, hck2⟩ : ∃ ck, ck = checkOf s d := ⟨_, rfl⟩
      have HCK : Hid (∀ w', Calls Tryd.prog 82 #[.int .i64 s, .string d] w' fun e w'' => e = .returned (.int .i64 ck) ∧ Below w'.heap.size w' w'') := by
        show ∀ _, _
        intro w'
        rw [hck2]
        exact check_any s d w' HDM.out
      rw [← hck2] at h2 ⊢
      have hne : (ck != 0) = true := by simp [h2]
      clear hck hck2 hn hroom
      go_enter Tryd.func45, Tryd.ntmps45
      go_wp2_with fail
      refine (slotCount_any _ _ _).mono ?_
      rintro e w' ⟨rfl, rfl⟩
      rw [HN.out]
      go_wp2_with fail
      refine (HCK.out _).mono ?_
      rintro e w1 ⟨rfl, hb1⟩
      go_wp2
      go_ret2
      exact slots_err _ _ _ hb1
end Go.Proofs.YtnkhifgppcnmkaaDoor
